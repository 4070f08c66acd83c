/- A part of my own abstract layer. -/
import Derived.Test.YtcijochjfncefaaGreatDoorK44Am1
import Derived.Below
import Derived.Carry
import Derived.OpenShut
import Derived.ShutString
import Derived.ChangeOld
import Derived.Lib.AppendStr
import Derived.Room.AppendFits
import Derived.Laws.BytesString
import Derived.Laws.MakeOwn
import Derived.Deep.Upon
import Derived.Laws.Tables
import Derived.ChangeKeysEq
import Derived.Laws.StructEq
namespace Go.AM

section
variable {U : Univ} {O : Out} {P : Program} {B : Base}

theorem names_sl {st : St U} {x : Nat × AVal U} (hx : x ∈ st.sl) {n : Nat} (hn : n ∈ AVal.names U x.2) : n ∈ st.names := by
  simp only [St.names, List.mem_append, List.mem_flatMap]; exact .inl (.inr ⟨x, hx, hn⟩)
theorem names_hp {st : St U} {n : Nat} (hn : n ∈ nm st.hp) : n ∈ st.names := by
  simp only [St.names, List.mem_append]; exact .inl (.inl hn)
theorem names_bk {st : St U} {x : Nat × Blk U} (hx : x ∈ st.hp) {n : Nat} (hn : n ∈ Blk.names U x.2) : n ∈ st.names := by
  simp only [St.names, List.mem_append, List.mem_flatMap]; exact .inr ⟨x, hx, hn⟩

theorem Rel.lay' {S : Nat → Prop} {ι ι' : Lay} {st : St U} {a : Act} {w : World} (hR : Rel U O B S ι st a w) (h : ∀ n ∈ st.names, ι' n = ι n) (hK : ∀ n, K0 ≤ n → ι' n = ι n) : Rel U O B S ι' st a w :=
  { hR with
    sl := fun x hx => VV.mono (fun _ _ => rfl) (fun _ h => h) _ _ (fun n hn => h n (names_sl hx hn)) (hR.sl x hx)
    hp := fun x hx => BR.mono (fun _ _ => rfl) (fun _ h => h) (h _ (names_hp (mem_nm hx))) (fun n hn => h n (names_bk hx hn)) (fun _ _ _ => rfl) (hR.hp x hx)
    own := ⟨fun n hn b c hb => hR.own.out n hn b c (by rw [← h n (names_hp hn)]; exact hb), fun n hn m hm hne b c c' hb hb' =>
      hR.own.sep n hn m hm hne b c c' (by rw [← h n (names_hp hn)]; exact hb) (by rw [← h m (names_hp hm)]; exact hb')⟩
    mine := fun n hn b c hb => hR.mine n hn b c (by rw [← h n (names_hp hn)]; exact hb)
    lay := fun n hn => (hK n hn).trans (hR.lay n hn) }

theorem Conv.thaw {st : St U} (t n E : Nat) (ty : Ty) (hin : (t, AVal.lit (.slice none 0 0)) ∈ st.sl) (hn : st.names.contains n = false) (hlo : n < K0) :
    Conv U O st ⟨setA st.sl t (.vec n (ty.width U.wd) 0 0), (n, .row E ty [] false) :: st.hp⟩ := by
  intro B S ι a w hR
  have hn' : n ∉ st.names := by simpa using hn
  have hR' := hR.lay' (ι' := fun m => if m = n then none else ι m) (fun m hm => if_neg fun (e : m = n) => hn' (e ▸ hm)) (fun m hm => if_neg (by omega))
  refine ⟨S, _, { hR' with sl := fun x hx => ?_, hp := fun x hx => ?_, own := ⟨fun m hm b c hb => ?_, fun m hm k hk hne b c c' hb => ?_⟩, mine := fun m hm b c hb => ?_ }⟩
  · rcases mem_setA hx with rfl | ⟨h1, _⟩
    · exact .inl ⟨if_pos rfl, rfl, rfl, (hR.sl _ hin).1⟩
    · exact hR'.sl x h1
  · rcases List.mem_cons.1 hx with rfl | h1
    · exact .inl ⟨if_pos rfl, rfl, rfl⟩
    · exact hR'.hp x h1
  · rcases List.mem_cons.1 hm with rfl | h1
    · simp at hb
    · exact hR'.own.out m h1 b c hb
  · rcases List.mem_cons.1 hm with rfl | h1
    · simp at hb
    · rcases List.mem_cons.1 hk with rfl | h2
      · simp
      · exact hR'.own.sep m h1 k h2 hne b c c' hb
  · rcases List.mem_cons.1 hm with rfl | h1
    · simp at hb
    · exact hR'.mine m h1 b c hb

def swap1 (n m : Nat) : Nat → Nat := fun k => if k = n then m else k

theorem Conv.ren {st st' : St U} (n m : Nat) (hm : m < K0) (hf : st.names.contains m = false) (hs : st.sl.map (fun x => (x.1, x.2.ren (swap1 n m))) = st'.sl)
    (hh : st.hp.map (fun x => (swap1 n m x.1, x.2.ren (swap1 n m))) = st'.hp) : Conv U O st st' := by
  intro B S ι a w hR
  have hf' : m ∉ st.names := by simpa using hf
  let ι' : Lay := fun k => if k = m then ι n else ι k
  have key : ∀ k ∈ st.names, ι' (swap1 n m k) = ι k := fun k hk => by
    unfold swap1
    by_cases e : k = n
    · rw [if_pos e, e]; exact if_pos rfl
    · rw [if_neg e]; exact if_neg fun (e' : k = m) => hf' (e' ▸ hk)
  have inj : ∀ k ∈ st.names, ∀ j ∈ st.names, swap1 n m k = swap1 n m j → k = j := fun k hk j hj e => by
    unfold swap1 at e
    by_cases e1 : k = n <;> by_cases e2 : j = n
    · rw [e1, e2]
    · rw [if_pos e1, if_neg e2] at e; exact absurd (e ▸ hj) hf'
    · rw [if_neg e1, if_pos e2] at e; exact absurd (e ▸ hk) hf'
    · rwa [if_neg e1, if_neg e2] at e
  have hnm : ∀ k ∈ nm st'.hp, ∃ j ∈ nm st.hp, swap1 n m j = k := fun k hk => by
    rw [← hh] at hk
    obtain ⟨x, hx, rfl⟩ := List.mem_map.1 hk
    obtain ⟨y, hy, rfl⟩ := List.mem_map.1 hx
    exact ⟨y.1, mem_nm hy, rfl⟩
  refine ⟨S, ι', { hR with sl := fun x hx => ?_, hp := fun x hx => ?_, own := ⟨fun k hk b c hb => ?_, fun k hk j hj hne b c c' hb => ?_⟩, mine := fun k hk b c hb => ?_, lay := fun k hk => ?_ }⟩
  · rw [← hs] at hx
    obtain ⟨y, hy, rfl⟩ := List.mem_map.1 hx
    exact (VV.ren _ _).2 (VV.mono (fun _ _ => rfl) (fun _ h => h) _ _ (fun k hk => key k (names_sl hy hk)) (hR.sl y hy))
  · rw [← hh] at hx
    obtain ⟨y, hy, rfl⟩ := List.mem_map.1 hx
    exact (BR.ren _ _).2 (BR.mono (fun _ _ => rfl) (fun _ h => h) (key _ (names_hp (mem_nm hy))) (fun k hk => key k (names_bk hy hk)) (fun _ _ _ => rfl) (hR.hp y hy))
  · obtain ⟨i, hi, rfl⟩ := hnm k hk
    rw [key i (names_hp hi)] at hb
    exact hR.own.out i hi b c hb
  · obtain ⟨i, hi, rfl⟩ := hnm k hk
    obtain ⟨i', hi', rfl⟩ := hnm j hj
    rw [key i (names_hp hi)] at hb
    rw [key i' (names_hp hi')]
    exact hR.own.sep i hi i' hi' (fun e => hne (by rw [e])) b c c' hb
  · obtain ⟨i, hi, rfl⟩ := hnm k hk
    rw [key i (names_hp hi)] at hb
    exact hR.mine i hi b c hb
  · show (if k = m then ι n else ι k) = _
    rw [if_neg (by omega)]
    exact hR.lay k hk

theorem Conv.freeze {st : St U} (t n E len : Nat) (ty : Ty) (xs : List (ty.den U.T)) (fx : Bool) (hin : (t, AVal.vec n (ty.width U.wd) 0 len) ∈ st.sl) (hlen : len = xs.length)
    (hb : (n, Blk.row E ty xs fx) ∈ st.hp) (hn : ∀ x ∈ st.hp, n ∉ Blk.names U x.2) :
    Conv U O st ⟨setA st.sl t (.p (.list ty) xs), st.hp.filter fun x => !(x.1 == n)⟩ := by
  intro B S ι a w hR
  have hB := hR.hp _ hb
  have hmem : ∀ x ∈ st.hp.filter (fun x => !(x.1 == n)), x ∈ st.hp ∧ x.1 ≠ n := fun x hx => by
    obtain ⟨h1, h2⟩ := List.mem_filter.1 hx
    exact ⟨h1, by simpa using h2⟩
  have hmn : ∀ k ∈ nm (st.hp.filter fun x => !(x.1 == n)), k ∈ nm st.hp ∧ k ≠ n := fun k hk => by
    obtain ⟨x, hx, rfl⟩ := List.mem_map.1 hk
    exact ⟨mem_nm (hmem x hx).1, (hmem x hx).2⟩
  have hnin : n ∈ nm st.hp := mem_nm hb
  refine ⟨fun b => S b ∨ ∃ c, ι n = some (b, c), ι, { hR with sl := fun x hx => ?_, hp := fun x hx => ?_, own := ⟨fun k hk b c hb => ?_, fun k hk j hj => hR.own.sep k (hmn k hk).1 j (hmn j hj).1⟩, mine := (fun k hk => hR.mine k (hmn k hk).1), lt := fun b h => ?_, gl := hR.gl.mono (fun _ _ => rfl) (fun _ h => .inl h), sub := fun b h => .inl (hR.sub b h), new := fun b h => ?_ }⟩
  · rcases mem_setA hx with rfl | ⟨h1, _⟩
    · have hv := (View.row (vw := [(n, Blk.row E ty xs fx)]) 0 len (List.mem_cons_self) (by omega)).ev (fun x hx => by simp at hx; subst hx; exact hB) (hR.sl _ hin)
      have e : ((xs.drop 0).take len) = xs := by rw [hlen]; simp
      rw [e] at hv
      refine VV.mono (fun _ _ => rfl) (fun b hb => ?_) _ _ (fun _ _ => rfl) hv
      rcases hb with hb | ⟨m, hm, c, hc⟩
      · exact .inl hb
      · simp at hm; subst hm; exact .inr ⟨c, hc⟩
    · exact VV.mono (fun _ _ => rfl) (fun _ h => .inl h) _ _ (fun _ _ => rfl) (hR.sl x h1)
  · exact BR.mono (fun _ _ => rfl) (fun _ h => .inl h) rfl (fun _ _ => rfl) (fun _ _ _ => rfl) (hR.hp x (hmem x hx).1)
  · refine ⟨fun h => ?_, (hR.own.out k (hmn k hk).1 b c hb).2⟩
    rcases h with h | ⟨c', h⟩
    · exact (hR.own.out k (hmn k hk).1 b c hb).1 h
    · exact hR.own.sep k (hmn k hk).1 n hnin (hmn k hk).2 b c c' hb h
  · rcases h with h | ⟨c, h⟩
    · exact hR.lt b h
    · exact (hR.own.out n hnin b c h).2
  · rcases h with h | ⟨c, h⟩
    · exact hR.new b h
    · exact .inr (hR.mine n hnin b c h)
end
end Go.AM

namespace Go.AM

theorem bool_cases (b : Bool) : b = true ∨ b = false := by cases b <;> simp
section
variable {U : Univ} {O : Out} {P : Program} {B : Base}

theorem namesOk_pure {c : CSpec U} (h1 : c.bs = []) (h2 : c.bs' = []) (h3 : c.nn = []) (h4 : AVal.names U c.r = []) : NamesOk c :=
  ⟨by simp [h1], by simp [h3], by simp [h4], by simp [h2], by simp [h2], by simp [h2]⟩

theorem Conv.nilL {st : St U} (t : Nat) (ty : Ty) (hin : (t, AVal.lit (.slice none 0 0)) ∈ st.sl) : Conv U O st ⟨setA st.sl t (.p (.list ty) ([] : List (ty.den U.T))), st.hp⟩ := by
  intro B S ι a w hR
  refine ⟨S, ι, { hR with sl := fun x hx => ?_ }⟩
  rcases mem_setA hx with rfl | ⟨h1, _⟩
  · exact VV.list_iff.2 (.inl ⟨rfl, (hR.sl _ hin).1⟩)
  · exact hR.sl x h1

theorem Conv.loose {st : St U} (n E : Nat) (ty : Ty) (xs : List (ty.den U.T)) (hin : (n, Blk.row E ty xs true) ∈ st.hp) : Conv U O st ⟨st.sl, setA st.hp n (.row E ty xs false)⟩ := by
  intro B S ι a w hR
  have hm : ∀ k ∈ nm (setA st.hp n (Blk.row E ty xs false)), k ∈ nm st.hp := fun k hk => by
    obtain ⟨x, hx, rfl⟩ := List.mem_map.1 hk
    rcases mem_setA hx with rfl | ⟨h1, _⟩
    · show n ∈ nm st.hp
      exact mem_nm hin
    · exact mem_nm h1
  refine ⟨S, ι, { hR with hp := fun x hx => ?_, own := ⟨fun k hk => hR.own.out k (hm k hk), fun k hk j hj => hR.own.sep k (hm k hk) j (hm j hj)⟩, mine := fun k hk => hR.mine k (hm k hk) }⟩
  rcases mem_setA hx with rfl | ⟨h1, _⟩
  · rcases hR.hp _ hin with ⟨_, _, h3⟩ | ⟨b, c, arr, cs, h1, h2, h3, h4, h5, h6, h7, h8⟩
    · cases h3
    · exact .inr ⟨b, c, arr, cs, h1, h2, h3, h4, h5, (fun h => by cases h), h7, h8⟩
  · exact hR.hp x h1

def descAgg : TypeDesc → Bool
  | .struct _ | .array _ _ => true
  | _ => false
theorem tyOk_mk {T : TypeId} {t : Ty} {c : Nat} {d : TypeDesc} (h : (P.info? T).map (·.size) = some c) (hc : c = t.width U.wd) (hu : P.underlying T = some d)
    (ha : descAgg d = t.isAgg) : TyOk P U T t := by
  cases hi : P.info? T with
  | none => rw [hi] at h; cases h
  | some i =>
    rw [hi] at h
    injection h with h
    exact ⟨⟨i, hi, h.trans hc⟩, ⟨d, hu, by rw [← ha]; cases d <;> rfl⟩⟩

theorem rowOk_mk {T E : TypeId} {t : Ty} {by_ c : Nat} (hs : SlOk P U T E t) (h : (P.info? E).map (fun i => (i.zero.map (·.cells.size), i.size, i.bytes)) = some (some c, c, by_)) (hc : c = t.width U.wd) (hp : 0 < c) :
    RowOk P U T E t by_ := by
  cases hi : P.info? E with
  | none => rw [hi] at h; cases h
  | some i =>
    rw [hi] at h
    simp only [Option.map_some, Option.some.injEq, Prod.mk.injEq] at h
    obtain ⟨h1, h2, h3⟩ := h
    cases hz : i.zero with
    | none => rw [hz] at h1; cases h1
    | some z =>
      rw [hz] at h1
      injection h1 with h1
      exact ⟨hs, ⟨i, z, hi, hz, h2.trans hc, h3, h1.trans hc⟩, hc ▸ hp⟩

theorem View.whole {vw : List (Nat × Blk U)} {n e : Nat} {t : Ty} {xs : List (t.den U.T)} {fx : Bool} (h : (n, Blk.row e t xs fx) ∈ vw) : View U vw (.vec n (t.width U.wd) 0 xs.length) (.p (.list t) xs) := by
  have := View.row (U := U) 0 xs.length h (by omega)
  have e : ((xs.drop 0).take xs.length) = xs := by simp
  rwa [e] at this

section
variable {rs : List (Nat × AVal U)} {ops : Array Oper} {o : Oper}
theorem sok_append' {T E : TypeId} {t : Ty} {by_ n d : Nat} {xs ys : List (t.den U.T)} {fx : Bool} {x y : Operand} {v : AVal U} {vw : List (Nat × Blk U)} (hg : o.guard = none) (hd : o.dst = some d)
    (ho : o.op = .call { callee := .builtin .append, args := #[x, y], argTypes := #[T, T] }) (hT : RowOk P U T E t by_) (hby : by_ ≤ 32768)
    (hx : Opd U rs x (.vec n (t.width U.wd) 0 xs.length)) (hy : Opd U rs y v) (hv : View U vw v (.p (.list t) ys)) (hvw : n ∉ nm vw) (hlim : xs.length + ys.length ≤ LIM) :
    SOk U O P ops o { rs := rs, ro := vw, cb := [(n, .row E t xs fx)], ws := .vec d (t.width U.wd) 0 (xs ++ ys).length, pb := [(d, .row E t (xs ++ ys) false)], nn := [d] } := by
  rw [List.length_append]
  exact sok_append hg hd ho hT hby hx hy hv hvw hlim

theorem sok_convI {t1 t2 : TypeId} {k k' : IntKind} {x : Operand} {n : Int} (hg : o.guard = none) (ho : o.op = .convert t1 t2 x) (h1 : P.underlying t1 = some (.int k)) (h2 : P.underlying t2 = some (.int k'))
    (hx : Opd U rs x (.p (.int k) n)) : SOk U O P ops o { rs := rs, ws := .p (.int k') (k'.wrap n) } :=
  sok_v hg _ (fun _ => exec_convert ho) fun S ι w a hrs _ => ⟨.int k' (k'.wrap n), by
    rw [VV.int_iff.1 (hx.ev hrs)]
    simp only [Go.convert, Sem.run_bind, run_underlying h1, run_underlying h2, Result.andThen_ok]
    rfl, VV.int_iff.2 rfl⟩

theorem sok_quo {t t' : TypeId} {x y : Operand} {k : IntKind} {m n : Int} (hg : o.guard = none) (ho : o.op = .binOp .quo t x y t') (hx : Opd U rs x (.p (.int k) m)) (hy : Opd U rs y (.p (.int k) n)) (hn : n ≠ 0) :
    SOk U O P ops o { rs := rs, ws := .p (.int k) (k.wrap (Int.tdiv m n)) } :=
  sok_v hg _ (fun _ => exec_bin ho) fun S ι w a hrs _ => ⟨.int k (k.wrap (Int.tdiv m n)), by
    rw [VV.int_iff.1 (hx.ev hrs), VV.int_iff.1 (hy.ev hrs)]
    simp [go_sem, Op.intDiv, hn], VV.int_iff.2 rfl⟩
theorem sok_rem {t t' : TypeId} {x y : Operand} {k : IntKind} {m n : Int} (hg : o.guard = none) (ho : o.op = .binOp .rem t x y t') (hx : Opd U rs x (.p (.int k) m)) (hy : Opd U rs y (.p (.int k) n)) (hn : n ≠ 0) :
    SOk U O P ops o { rs := rs, ws := .p (.int k) (Int.tmod m n) } :=
  sok_v hg _ (fun _ => exec_bin ho) fun S ι w a hrs _ => ⟨.int k (Int.tmod m n), by
    rw [VV.int_iff.1 (hx.ev hrs), VV.int_iff.1 (hy.ev hrs)]
    simp [go_sem, Op.intDiv, hn], VV.int_iff.2 rfl⟩
end
end
end Go.AM

namespace Go.AM
open Go.WideShapes Go.ChangeShapes Go.RowKit

def Out.no : Out := { ev := fun _ => .iface 0 (.bool false), ev_one := fun _ => rfl, ev_if := fun _ => ⟨_, _, rfl⟩ }
def noLay : Lay := fun _ => none

section
variable {U : Univ} {O : Out} {P : Program} {H : Type} {enc : TypeId × Value → H} {W : World} {base : Nat} {sp : Nat → Bool} {held : Bool} {tab : TypeId → Option Ty}

theorem arg_rd (hT : TabOk P U tab) {T : TypeId} {t : Ty} {v : Value} {d : DataW H} {p : List MemPlace} {r : Reach} {b0 : Nat} (ht : tab T = some t)
    (hv : Value.okWide P W r b0 T v) (hd : DataW.Trod enc P W base sp held T v d p) : ∃ x : t.den U.T, VV U O (There W) noLay W (.p t x) v ∧ Wf U t x := by
  obtain ⟨n, hn⟩ := hd
  obtain ⟨x, hx, hw⟩ := trod_rd (O := O) hT n T t v.cells.toList d p ht hn
  refine ⟨x, ⟨_, hx, ?_⟩, hw⟩
  have hat := hT T t ht
  cases t with
  | bool => obtain ⟨b, rfl⟩ := okWide_bool hat hv; rfl
  | int k => obtain ⟨b, rfl⟩ := okWide_int hat hv; rfl
  | str => obtain ⟨b, rfl⟩ := okWide_string hat hv; rfl
  | list t => obtain ⟨E, hE, _⟩ := hat; obtain ⟨a, l, c, rfl⟩ := okWide_slice hE hv; rfl
  | named n => obtain ⟨fs, hE, _⟩ := hat; obtain ⟨cs, rfl, _⟩ := okWide_struct hE hv; rfl
  | arr n t =>
    obtain ⟨E, hE, _⟩ := hat
    simp only [Value.okWide, hE] at hv
    obtain ⟨cs, rfl, _⟩ := hv
    rfl
  | unit => cases hat
  | err => cases hat
  | pair a b => cases hat
  | ptr t => cases hat

theorem Nx.below {S S' : Nat → Prop} {ι ι' : Lay} {w w' : World} {s : LSpec U} (h : Nx U O s S ι w S' ι' w') (hc : s.cb = []) : Below w.heap.size w w' :=
  ⟨h.os, h.tape, h.output, h.size, fun k hk => h.keep k hk (by rw [hc]; intro n hn; cases hn)⟩

theorem Own.nil {S : Nat → Prop} {ι : Lay} {w : World} : Own S ι w [] := by
  constructor
  all_goals intro n hn
  all_goals cases hn

theorem COk.at {f : FuncId} {as : List (AVal U)} {b : Bool} (h : COk U O P f { ar := as, r := .p .bool b }) {w : World} {vs : List Value} (hgl : O.Glob (There w) w) (hv : VVs U O (There w) noLay w as vs) :
    Calls P f vs.toArray w fun e w' => e = .returned (.bool b) ∧ Below w.heap.size w w' := by
  refine (h (There w) noLay w vs (fun b hb => hb) hgl hv (fun x hx => by cases hx) Own.nil).mono fun e w' hx => ?_
  obtain ⟨u, S', ι', rfl, hn, hu⟩ := hx
  rw [VV.bool_iff] at hu
  subst hu
  exact ⟨rfl, hn.below rfl⟩
end
end Go.AM

namespace Go.AM
open Go.RowKit
section
variable {U : Univ} {O : Out} {P : Program} {S : Nat → Prop} {ι : Lay} {w : World} {rs : List (Nat × AVal U)} {a : Act} {ops : Array Oper} {o : Oper}

def numsOf (s : List UInt8) : List Int := s.map fun b => (b.toNat : Int)
def txtOf (l : List Int) : List UInt8 := l.map fun n => UInt8.ofNat n.toNat

theorem Rd.int_iff {k : IntKind} {n : Int} {cs : List Value} : Rd U O S w (.int k) n cs ↔ cs = [.int k n] := by
  constructor
  · intro h; cases h; rfl
  · rintro rfl; exact .int k n

theorem VV.err_iff {x : Nat} {u : Value} : VV U O S ι w (.p .err x) u ↔ (x = 0 ∧ u = .nilIface) ∨ (∃ k, x = k + 1 ∧ u = O.ev k) ∨ (x = unkE ∧ ∃ T v, u = .iface T v) := by
  simp only [VV]
  constructor
  · rintro ⟨cs, h, rfl⟩
    cases h with
    | err0 => exact .inl ⟨rfl, rfl⟩
    | err k => exact .inr (.inl ⟨k, rfl, rfl⟩)
    | errU T v => exact .inr (.inr ⟨rfl, T, v, rfl⟩)
  · rintro (⟨rfl, rfl⟩ | ⟨k, rfl, rfl⟩ | ⟨rfl, T, v, rfl⟩)
    · exact ⟨_, .err0, rfl⟩
    · exact ⟨_, .err k, rfl⟩
    · exact ⟨_, .errU _ _, rfl⟩

theorem rowCells_bytes (s : ByteArray) : rowCells s.data.toList.length (fun i => [Value.int .u8 ((numsOf s.data.toList).getD i 0)]) = Lib.strCells s := by
  apply List.ext_getElem?
  intro k
  have hl : (rowCells s.data.toList.length (fun i => [Value.int .u8 ((numsOf s.data.toList).getD i 0)])).length = s.data.toList.length * 1 := flatMap_range_length _ _ _ fun i _ => rfl
  by_cases hk : k < s.data.toList.length
  · have h1 := rowCells_get (n := s.data.toList.length) (k := 1) (cs := fun i => [Value.int .u8 ((numsOf s.data.toList).getD i 0)]) (i := k) (j := 0) (fun i _ => rfl) hk (by omega)
    rw [Nat.mul_one, Nat.add_zero] at h1
    rw [h1]
    unfold Lib.strCells numsOf
    simp only [List.getElem?_map, List.getElem?_eq_getElem hk, List.getD_eq_getElem?_getD, Option.map_some, Option.getD_some, List.getElem?_cons_zero]
  · rw [List.getElem?_eq_none (by omega), List.getElem?_eq_none (by unfold Lib.strCells; rw [List.length_map]; omega)]

theorem z8_mk {E : TypeId} (h : (P.info? E).bind (·.zero) = some (.int .u8 0)) : ∃ i, P.info? E = some i ∧ i.zero = some (.int .u8 0) := by
  cases hi : P.info? E with
  | none => rw [hi] at h; cases h
  | some i => rw [hi] at h; exact ⟨i, rfl, h⟩

theorem run_appendS_place {T T2 ty E : TypeId} (hT : RowOk P U T E (.int .u8) 1) (hz : ∃ i, P.info? E = some i ∧ i.zero = some (.int .u8 0)) (h2 : P.underlying T2 = some .string) {v : Value} {n : Nat} {xs : List Value} (hown : w.ownsRow 0 E 1 v n xs)
    (s : ByteArray) (h63 : n + s.size ≤ maxLen) (hbytes : n + s.size ≤ 140737488355328) :
    ∃ v' w', (Builtin.append_ #[T, T2] ty #[v, .string s]).run P w = .ok v' w' ∧ w'.ownsRow 0 E 1 v' (n + s.size) (xs ++ Lib.strCells s) ∧ w.grownBy w' v.ownBlock ∧
      ∀ b, v'.ownBlock = some b → w.heap.size ≤ b ∨ v.ownBlock = some b := by
  obtain ⟨i, z, hi, hzz, hs, hby, hzs⟩ := hT.info
  obtain ⟨i', hi', hz0⟩ := hz
  obtain rfl : i' = i := by rw [hi] at hi'; exact (Option.some.inj hi').symm
  obtain ⟨v', w', hr, ho, hg, hnil⟩ := Lib.run_append_own_string (P := P) w 0 T T2 ty E i' hT.sl.under h2 hi hz0 hs hby v n xs hown s h63 hbytes (Nat.zero_le _)
  refine ⟨v', w', hr, ho, hg, ?_⟩
  rcases hown.2 with ⟨rfl, rfl⟩ | ⟨g, cap, cur, rfl, _, h3, h4, h5, h6, h7⟩
  · by_cases hm : s.size = 0
    · rw [hnil.2 ⟨rfl, hm⟩]; intro b hb; cases hb
    · have h2' := run_append_nil_string (P := P) w T T2 ty E i' _ hT.sl.under h2 hi hz0 s (by omega) (by unfold maxLen at h63; omega) (by rw [hby]; omega)
      obtain ⟨rfl, _⟩ := ok_inj (hr.symm.trans h2')
      intro b hb
      simp [Value.ownBlock] at hb
      exact .inl (by omega)
  · have hxl : xs.length = n := by simpa using hown.1
    by_cases hroom : n + s.size ≤ cap
    · have hcs' : cur.size = cap := by simpa using h6
      have h2' := Lib.run_append_room_string (P := P) w T T2 ty E i' hT.sl.under h2 hi hs g n cap cur h3 s hroom (by omega)
      obtain ⟨rfl, _⟩ := ok_inj (hr.symm.trans h2')
      exact fun b hb => .inr hb
    · have holds : ∀ j u, xs[j]? = some u → w.cell? ((⟨g, 0, none⟩ : Addr).add j) = some u := hown.cells (g := g) rfl
      have h2' := Lib.run_append_grow_string (P := P) w T T2 ty E i' _ hT.sl.under h2 hi hz0 ⟨g, 0, none⟩ n cap xs (by rw [hs]; simpa [Ty.width] using hxl) holds s (by omega) (by unfold maxLen at h63; omega)
        (by rw [hby]; exact growslice_fits (by omega) (by omega))
      obtain ⟨rfl, _⟩ := ok_inj (hr.symm.trans h2')
      intro b hb
      simp [Value.ownBlock] at hb
      exact .inl (by omega)

theorem ints_length (s : List UInt8) : (numsOf s).length = s.length := by simp [numsOf]

theorem sok_appendS {T T2 E : TypeId} {n d : Nat} {xs : List Int} {s : List UInt8} {fx : Bool} {x y : Operand} (hg : o.guard = none) (_ : o.dst = some d)
    (ho : o.op = .call { callee := .builtin .append, args := #[x, y], argTypes := #[T, T2] }) (hT : RowOk P U T E (.int .u8) 1) (hz : ∃ i, P.info? E = some i ∧ i.zero = some (.int .u8 0)) (h2 : P.underlying T2 = some .string)
    (hx : Opd U rs x (.vec n 1 0 xs.length)) (hy : Opd U rs y (.p .str s)) (hlim : xs.length + s.length ≤ LIM) :
    SOk U O P ops o { rs := rs, cb := [(n, .row E (.int .u8) xs fx)], ws := .vec d 1 0 (xs ++ numsOf s).length, pb := [(d, .row E (.int .u8) (xs ++ numsOf s) false)], nn := [d] } := by
  intro S ι w a hlt hgl hrs hro hcb hown K Q hK
  have hB := hcb _ List.mem_cons_self
  obtain ⟨cs, hel, hrow, hplace⟩ := own_of (t := .int .u8) rfl hB (hx.ev hrs) rfl rfl
  obtain ⟨b, hb, rfl⟩ := VV.str_iff.1 (hy.ev hrs)
  have hbs : b.data.toList.length = b.size := by rw [Array.length_toList]; rfl
  have exl : @List.length ((Ty.int .u8).den U.T) xs = @List.length Int xs := rfl
  rw [hbs] at hlim
  obtain ⟨v', w', hr, ho', hg', hp⟩ := run_appendS_place (ty := o.type) hT hz h2 hrow b (by unfold LIM at hlim; unfold maxLen; omega) (by unfold LIM at hlim; omega)
  have hzl : (xs ++ numsOf b.data.toList).length = xs.length + b.size := by simp [ints_length, hbs]
  have hels : ∀ (i : Nat) (h : i < (xs ++ numsOf b.data.toList).length), Rd U O S w (.int .u8) (xs ++ numsOf b.data.toList)[i] (if i < xs.length then cs i else [Value.int .u8 ((numsOf b.data.toList).getD (i - xs.length) 0)]) := fun i hi => by
    by_cases h : i < xs.length
    · rw [if_pos h, List.getElem_append_left h]; exact hel i h
    · rw [if_neg h, List.getElem_append_right (by omega)]
      have hlt' : i - xs.length < (numsOf b.data.toList).length := by simp [ints_length] at hi ⊢; omega
      rw [List.getD_eq_getElem?_getD, List.getElem?_eq_getElem hlt']
      exact Rd.int_iff.2 rfl
  have hcells : rowCells xs.length cs ++ Lib.strCells b = rowCells (xs ++ numsOf b.data.toList).length fun i => if i < xs.length then cs i else [Value.int .u8 ((numsOf b.data.toList).getD (i - xs.length) 0)] := by
    rw [← rowCells_bytes, rowCells_append, hzl, hbs]
  have ho' : w'.ownsRow 0 E 1 v' (xs ++ numsOf b.data.toList).length (rowCells (xs ++ numsOf b.data.toList).length fun i => if i < xs.length then cs i else [Value.int .u8 ((numsOf b.data.toList).getD (i - xs.length) 0)]) := by
    rw [← hcells, hzl]; exact ho'
  obtain ⟨ι', hN, hV⟩ := nx_append (t := .int .u8) (zs := xs ++ numsOf b.data.toList) (s := { rs := rs, cb := [(n, .row E (.int .u8) xs fx)], ws := .vec d 1 0 (xs ++ numsOf b.data.toList).length, pb := [(d, .row E (.int .u8) (xs ++ numsOf b.data.toList) false)], nn := [d] })
    (ι := ι) rfl rfl hlt hg' (fun b hb => by
      obtain ⟨c, hc⟩ := hplace b hb
      have := hown.out n (by simp) b c hc
      exact ⟨this.1, this.2, n, by simp, c, hc⟩) hels ho' hp
  refine opWp_plain hg ?_
  unfold Oper.wp
  rw [exec_append ho, hb, run_vOf hr]
  exact hK v' S ι' w' hN hV

theorem foldl_push (l : List Int) : ∀ r : ByteArray, (l.foldl (fun r n => r.push (UInt8.ofNat n.toNat)) r).data.toList = r.data.toList ++ txtOf l := by
  induction l with
  | nil => intro r; simp [txtOf]
  | cons x l ih => intro r; rw [List.foldl_cons, ih]; simp [txtOf, ByteArray.push]

theorem sok_strOf {t1 t2 E : TypeId} {n : Nat} {xs : List Int} {fx : Bool} {x : Operand} (hg : o.guard = none) (ho : o.op = .convert t1 t2 x) (h1 : P.underlying t1 = some (.slice E)) (he : P.underlying E = some (.int .u8)) (h2 : P.underlying t2 = some .string)
    (hx : Opd U rs x (.vec n 1 0 xs.length)) : SOk U O P ops o { rs := rs, ro := [(n, .row E (.int .u8) xs fx)], ws := .p .str (txtOf xs) } :=
  sok_v hg _ (fun _ => exec_convert ho) fun S ι w a hrs hro => by
    obtain ⟨cs, hel, hrow, _⟩ := own_of (t := .int .u8) rfl (hro _ List.mem_cons_self) (hx.ev hrs) rfl rfl
    generalize a.eval x = u at hrow
    have hcs : rowCells xs.length cs = xs.map (Value.int .u8) := by
      apply List.ext_getElem?
      intro k
      by_cases hk : k < xs.length
      · have h3 := rowCells_get (n := xs.length) (k := 1) (cs := cs) (i := k) (j := 0) (fun i hi => (hel i hi).length) hk (by omega)
        rw [Nat.mul_one, Nat.add_zero] at h3
        rw [h3, Rd.int_iff.1 (hel k hk)]
        rw [List.getElem?_map, List.getElem?_eq_getElem hk]; rfl
      · have hl : (rowCells xs.length cs).length = xs.length * 1 := flatMap_range_length _ _ _ fun i hi => (hel i hi).length
        rw [List.getElem?_eq_none (by omega), List.getElem?_eq_none (by simp; omega)]
    rcases hrow.2 with ⟨rfl, h0⟩ | ⟨g, cap, cur, rfl, _, h3, h4, h5, h6, h7⟩
    · have hn : xs = [] := List.eq_nil_of_length_eq_zero h0
      subst hn
      refine ⟨.string .empty, ?_, VV.str_iff.2 ⟨_, rfl, rfl⟩⟩
      simp only [Go.convert, Sem.run_bind, run_underlying h1, run_underlying h2, run_underlying he, Result.andThen_ok, Conv.bytesToString, Sem.run_pure]
    · have hcells : ∀ j v, (xs.map (Value.int .u8))[j]? = some v → w.cell? ((⟨g, 0, none⟩ : Addr).add j) = some v := by
        rw [← hcs]; exact hrow.cells (g := g) rfl
      have hload := run_loadCells_list (P := P) (w := w) ⟨g, 0, none⟩ (xs.map (Value.int .u8)) hcells
      rw [List.length_map] at hload
      refine ⟨_, ?_, VV.str_iff.2 ⟨xs.foldl (fun r n => r.push (UInt8.ofNat n.toNat)) ByteArray.empty, rfl, by rw [foldl_push]; rfl⟩⟩
      simp only [Go.convert, Sem.run_bind, run_underlying h1, run_underlying h2, run_underlying he, Result.andThen_ok]
      exact run_bytesToString w _ _ _ xs hload

theorem sok_loadG {T : TypeId} {t : Ty} {x : t.den U.T} {g : Nat} {v : Value} (hg : o.guard = none) (ho : o.op = .load T (.global g)) (ht : TyOk P U T t) (h1 : t.isAgg = false) (hw : t.width U.wd = 1)
    (hgl : O.gl g = some v) (hv : ∀ S w, Rd U O S w t x [v]) : SOk U O P ops o { rs := rs, ws := .p t x } := by
  intro S ι w a hlt hglob hrs hro hcb hown K Q hK
  obtain ⟨hS, hc⟩ := hglob.1 g v hgl
  refine opWp_plain hg ?_
  unfold Oper.wp
  have hload := run_loadAt (P := P) (w := w) ht (bl := g) (of := 0) (cs := [v]) (by rw [hw]; rfl) (fun j hj => by
    have : j = 0 := by omega
    subst this; simpa using hc)
  have e : a.eval (.global g) = .pointer (some ⟨g, 0, none⟩) := rfl
  rw [exec_load ho, e, run_vOf hload]
  exact hK _ S ι w (Nx.refl _ rfl rfl hlt) ⟨[v], hv S w, by rw [h1]⟩

def errIs (op : BinOp) (x : Nat) : Option Bool := match op with | .eql => some (x == 0) | .neq => some (!(x == 0)) | _ => none

def isNil : Value → Bool | .nilIface => true | _ => false

theorem run_equal_nil {t : TypeId} {ms : Array (String × TypeId)} (ht : P.underlying t = some (.interface ms)) (b : Value) (hb : b = .nilIface ∨ ∃ T v, b = .iface T v) (w : World) :
    (Op.equal t b .nilIface).run P w = .ok (isNil b) w := by
  show (Op.equalIn (9999 + 1) t b .nilIface).run P w = _
  unfold Op.equalIn
  rw [Sem.run_bind, run_underlying ht]
  rcases hb with rfl | ⟨T, v, rfl⟩
  · simp [Sem.run_pure, Result.andThen_ok, isNil]
  · simp [Sem.run_pure, Result.andThen_ok, isNil]

theorem sok_errNil {op : BinOp} {t t' : TypeId} {x : Operand} {k : Nat} {r : Bool} {ms : Array (String × TypeId)} (hg : o.guard = none) (ho : o.op = .binOp op t x (.const .nilIface) t') (ht : P.underlying t = some (.interface ms))
    (hx : Opd U rs x (.p .err k)) (hr : errIs op k = some r) : SOk U O P ops o { rs := rs, ws := .p .bool r } :=
  sok_v hg _ (fun _ => exec_bin ho) fun S ι w a hrs _ => ⟨.bool r, by
    have hb : (a.eval x = .nilIface ∧ k = 0) ∨ ((∃ T v, a.eval x = .iface T v) ∧ k ≠ 0) := by
      rcases VV.err_iff.1 (hx.ev hrs) with ⟨rfl, h⟩ | ⟨j, rfl, h⟩ | ⟨rfl, T, v, h⟩
      · exact .inl ⟨h, rfl⟩
      · obtain ⟨T, v, hv⟩ := O.ev_if j; exact .inr ⟨⟨T, v, h.trans hv⟩, by omega⟩
      · exact .inr ⟨⟨T, v, h⟩, by decide⟩
    have hc : a.eval (.const .nilIface) = .nilIface := rfl
    rw [hc]
    have hgd : (eqGuard op t x (.const .nilIface) (a.eval x) .nilIface).run P w = .ok () w := by
      unfold eqGuard
      rcases hb with ⟨h, _⟩ | ⟨⟨T, v, h⟩, _⟩ <;> rw [h] <;> cases op <;> simp [Sem.run_pure]
    have heq := run_equal_nil (P := P) ht (a.eval x) (hb.imp (fun h => h.1) fun h => h.1) w
    simp only [Sem.run_bind, hgd, Result.andThen_ok]
    rcases hb with ⟨h, rfl⟩ | ⟨⟨T, v, h⟩, hk⟩
    · rw [h] at heq ⊢
      cases op <;> simp only [errIs, Option.some.injEq, reduceCtorEq] at hr <;> subst hr <;> simp only [binOp, Sem.run_bind, heq, isNil, Result.andThen_ok, Sem.run_pure] <;> rfl
    · rw [h] at heq ⊢
      have : (k == 0) = false := by simpa using hk
      cases op <;> simp only [errIs, Option.some.injEq, reduceCtorEq] at hr <;> subst hr <;> simp only [binOp, Sem.run_bind, heq, Result.andThen_ok, Sem.run_pure, isNil, this] <;> rfl, VV.bool_iff.2 rfl⟩

theorem Conv.nilE {st : St U} (t : Nat) (hin : (t, AVal.lit .nilIface) ∈ st.sl) : Conv U O st ⟨setA st.sl t (.p .err (0 : Nat)), st.hp⟩ := by
  intro B S ι a w hR
  refine ⟨S, ι, { hR with sl := fun x hx => ?_ }⟩
  rcases mem_setA hx with rfl | ⟨h1, _⟩
  · exact VV.err_iff.2 (.inl ⟨rfl, (hR.sl _ hin).1⟩)
  · exact hR.sl x h1

theorem Nx.ofBelow {s : LSpec U} {w w' : World} (h : Below w.heap.size w w') (_ : s.cb = []) (hpb : s.pb = []) (hlt : ∀ b, S b → b < w.heap.size) : Nx U O s S ι w S ι w' :=
  ⟨h.os, h.tape, h.output, h.size, fun _ h => h, fun _ h => .inl h, fun b hb => Nat.lt_of_lt_of_le (hlt b hb) h.size, fun b hb _ => h.block b hb, fun _ _ => rfl, by simp [hpb], by simp [hpb], by simp [hpb]⟩
end
end Go.AM

namespace Go.AM
section
variable {U : Univ} {O : Out} {P : Program} {S : Nat → Prop} {ι : Lay} {w : World} {rs : List (Nat × AVal U)} {a : Act} {ops : Array Oper} {o : Oper}

theorem exec_makeSlice {ρ : Operand → Value} {x y : Operand} {T : TypeId} (ho : o.op = .makeSlice T x y) : execOp ρ o = vOf (Instr.makeSlice T (ρ x) (ρ y)) := by unfold execOp; rw [ho]; rfl

theorem madeCells_get {z : Array Value} {n i j : Nat} (hi : i < n) (hj : j < z.size) : (madeCells z (n * z.size))[i * z.size + j]? = z[j]? := by
  have hlt : i * z.size + j < n * z.size := by
    have h1 : (i + 1) * z.size ≤ n * z.size := Nat.mul_le_mul_right _ (by omega)
    rw [Nat.add_mul] at h1
    omega
  have hm : (i * z.size + j) % z.size = j := by rw [Nat.mul_comm, Nat.mul_add_mod]; exact Nat.mod_eq_of_lt hj
  unfold madeCells
  rw [Array.getElem?_map, Array.getElem?_range, if_pos hlt]
  simp only [Option.map_some, hm]
  rw [Array.getElem?_eq_getElem hj, getElem!_pos z j hj]

theorem sok_makeSlice {T E : TypeId} {t : Ty} {by_ d : Nat} {z : t.den U.T} {x y : Operand} {kl kc : IntKind} {l c : Int} (hg : o.guard = none) (_ : o.dst = some d) (ho : o.op = .makeSlice T x y)
    (hT : RowOk P U T E t by_) (hby : by_ ≤ 32768) (hz : ZeroOk P U E t z) (hx : Opd U rs x (.p (.int kl) l)) (hy : Opd U rs y (.p (.int kc) c)) (h0 : 0 ≤ l) (h1 : l ≤ c) (hlim : c ≤ (LIM : Nat)) :
    SOk U O P ops o { rs := rs, ws := .vec d (t.width U.wd) 0 l.toNat, pb := [(d, .row E t (List.replicate c.toNat z) true)], nn := [d] } := by
  intro S ι w a hlt hgl hrs hro hcb hown K Q hK
  have hL : LIM = 4294967296 := rfl
  rw [hL] at hlim
  obtain ⟨i, v, hi, hv, hall⟩ := hz.h
  obtain ⟨cs, hr, rfl⟩ := hall O S w
  obtain ⟨i', z', hi', hz', hs, hb', hzs⟩ := hT.info
  obtain rfl : i' = i := by rw [hi] at hi'; exact (Option.some.inj hi').symm
  obtain rfl : z' = mkV t.isAgg cs := by rw [hv] at hz'; exact (Option.some.inj hz').symm
  have hbytes : (i'.bytes : Int) * c ≤ 281474976710656 := by
    rw [hb']
    have h2 : (by_ : Int) * c ≤ 32768 * 4294967296 := Int.mul_le_mul (by omega) (by omega) (by omega) (by omega)
    omega
  have hrun := run_make (P := P) w T E i' (mkV t.isAgg cs) hT.sl.under hi hv kl kc l c h0 h1 hbytes (by omega)
  refine opWp_plain hg ?_
  unfold Oper.wp
  rw [exec_makeSlice ho, VV.int_iff.1 (hx.ev hrs), VV.int_iff.1 (hy.ev hrs), run_vOf hrun]
  have hcells : (mkV t.isAgg cs).cells.toList = cs := hr.cells
  have hsz : (mkV t.isAgg cs).cells.size = t.width U.wd := hzs
  refine hK _ S _ _ (Nx.alloc (s := { rs := rs, ws := .vec d (t.width U.wd) 0 l.toNat, pb := [(d, .row E t (List.replicate c.toNat z) true)], nn := [d] }) (.cells (madeCells (mkV t.isAgg cs).cells (c.toNat * i'.size)) E) rfl rfl rfl hlt c.toNat ?_) (.inr ⟨w.heap.size, c.toNat, 0, by simp, by omega, by simp, .inl (by simp)⟩)
  refine .inr ⟨w.heap.size, c.toNat, madeCells (mkV t.isAgg cs).cells (c.toNat * i'.size), fun _ => cs, by simp, heap_alloc_new w _, by rw [size_madeCells, hs], by unfold maxLen; omega, by simp, fun _ => by simp, fun j hj => ?_, fun i j hi hj => ?_⟩
  · rw [List.getElem_replicate]
    exact hr.mono (fun b hb => heap_alloc_old w _ b (hlt b hb)) fun _ h => h
  · rw [hs, ← hsz, madeCells_get (by simpa using hi) (by rw [hsz]; exact hj), ← Array.getElem?_toList, hcells]
end
end Go.AM

namespace Go.AM
section
variable {U : Univ} {O : Out} {P : Program} {S : Nat → Prop} {ι : Lay} {w : World} {rs : List (Nat × AVal U)} {a : Act} {ops : Array Oper} {o : Oper}

end
end Go.AM

namespace Go.AM

def injOnB (ρ : Nat → Nat) (l : List Nat) : Bool := l.all fun m => l.all fun n => !(ρ m == ρ n) || m == n
theorem injOn_of {ρ : Nat → Nat} {l : List Nat} (h : injOnB ρ l = true) : InjOn ρ l := by
  intro m hm n hn e
  have := List.all_eq_true.1 (List.all_eq_true.1 h m hm) n hn
  simpa [e] using this

def namesOkB {U : Univ} (c : CSpec U) : Bool :=
  (nm c.bs).all (fun n => Nat.ble K0 n) && c.nn.all (fun n => Nat.blt n K0) && (AVal.names U c.r).all (fun n => c.nn.contains n || Nat.ble K0 n) &&
  (nm c.bs').all (fun n => c.nn.contains n || Nat.ble K0 n) && c.bs'.all (fun x => (Blk.names U x.2).all fun n => c.nn.contains n || Nat.ble K0 n) &&
  (nm c.bs').all (fun n => c.nn.contains n || (nm c.bs).contains n)
theorem namesOk_of {U : Univ} {c : CSpec U} (h : namesOkB c = true) : NamesOk c := by
  unfold namesOkB at h
  simp only [Bool.and_eq_true, List.all_eq_true] at h
  obtain ⟨⟨⟨⟨⟨h1, h2⟩, h3⟩, h4⟩, h5⟩, h6⟩ := h
  have k : ∀ n, (c.nn.contains n || Nat.ble K0 n) = true → n ∈ c.nn ∨ K0 ≤ n := fun n h => by
    rw [Bool.or_eq_true] at h
    exact h.imp (fun h => by simpa using h) fun h => Nat.le_of_ble_eq_true h
  refine ⟨fun n hn => Nat.le_of_ble_eq_true (h1 n hn), fun n hn => Nat.le_of_ble_eq_true (h2 n hn), fun n hn => k n (h3 n hn), fun n hn => k n (h4 n hn), fun x hx n hn => k n (h5 x hx n hn), fun n hn => ?_⟩
  have := h6 n hn
  rw [Bool.or_eq_true] at this
  exact this.imp (fun h => by simpa using h) fun h => by simpa using h

theorem View.cast {U : Univ} {vw : List (Nat × Blk U)} {n w o len len' : Nat} (h : len = len') : View U vw (.vec n w o len) (.vec n w o len') := h ▸ .same _

theorem rd_str0 {U : Univ} {O : Out} {S : Nat → Prop} {w : World} : Rd U O S w .str ([] : List UInt8) [.string ByteArray.empty] := .str ByteArray.empty

theorem Conv.cast {U : Univ} {O : Out} {st st' : St U} (h : st = st') : Conv U O st st' := h ▸ Conv.refl st

def upd {α : Type} (l : List α) (i : Nat) (x : α) : List α := l.set i x
theorem upd_length {α : Type} (l : List α) (i : Nat) (x : α) : (upd l i x).length = l.length := by simp [upd]

section
variable {U : Univ} {O : Out} {P : Program} {S : Nat → Prop} {ι : Lay} {w : World} {rs : List (Nat × AVal U)} {a : Act} {ops : Array Oper} {o : Oper}

inductive ZU (U : Univ) : List (AVal U) → List Value → Prop
  | nil : ZU U [] []
  | lit {c : Value} {us : List (AVal U)} {cs : List Value} (h : c.oneCell' = true) : ZU U us cs → ZU U (.lit c :: us) (c :: cs)
  | data {t : Ty} {x : t.den U.T} {ds : List Value} {us : List (AVal U)} {cs : List Value} (h : ∀ (O : Out) S w, Rd U O S w t x ds) : ZU U us cs → ZU U (.p t x :: us) (ds ++ cs)

theorem ZU.to {us : List (AVal U)} {cs : List Value} (h : ZU U us cs) : ∃ vs, VVs U O S ι w us vs ∧ cellsOf vs = cs ∧ ∀ v ∈ vs, ∀ c ∈ v.cells.toList, c.oneCell' = true := by
  induction h with
  | nil => exact ⟨[], rfl, rfl, fun v hv => by cases hv⟩
  | @lit c us cs h _ ih =>
    obtain ⟨vs, h1, h2, h3⟩ := ih
    refine ⟨c :: vs, ⟨c, vs, rfl, ⟨rfl, h⟩, h1⟩, ?_, fun v hv => ?_⟩
    · simp only [cellsOf, List.flatMap_cons, cells_of_one h] at h2 ⊢; rw [h2]; rfl
    · rcases List.mem_cons.1 hv with rfl | hv
      · rw [cells_of_one h]; intro x hx; simp at hx; rw [hx]; exact h
      · exact h3 v hv
  | @data t x ds us cs h _ ih =>
    obtain ⟨vs, h1, h2, h3⟩ := ih
    have hd := h O S w
    refine ⟨mkV t.isAgg ds :: vs, ⟨_, vs, rfl, ⟨ds, hd, rfl⟩, h1⟩, ?_, fun v hv => ?_⟩
    · simp only [cellsOf, List.flatMap_cons, hd.cells] at h2 ⊢; rw [h2]
    · rcases List.mem_cons.1 hv with rfl | hv
      · rw [hd.cells]; exact hd.one
      · exact h3 v hv

theorem sok_allocZ {T : TypeId} {d : Nat} {us : List (AVal U)} {cs : List Value} {v : Value} (hg : o.guard = none) (_ : o.dst = some d) (ho : o.op = .alloc T)
    (hz : (P.info? T).bind (·.zero) = some v) (hc : v.cells.toList = cs) (hu : ZU U us cs) (hn : (AVal.namesL U us).contains d = false) :
    SOk U O P ops o { rs := rs, ws := .loc d 0, pb := [(d, .box us)], nn := [d] } := by
  have hn' : d ∉ AVal.namesL U us := by simpa using hn
  intro S ι w a hlt hgl hrs hro hcb hown K Q hK
  obtain ⟨vs, h1, h2, h3⟩ := hu.to (O := O) (S := S) (ι := ι) (w := w)
  cases hi : P.info? T with
  | none => rw [hi] at hz; cases hz
  | some i =>
  rw [hi] at hz
  have hv : i.zero = some v := hz
  refine opWp_plain hg ?_
  unfold Oper.wp
  rw [exec_alloc ho]
  have hr : (Instr.alloc T true (.tuple #[])).run P w = .ok (.pointer (some ⟨w.heap.size, 0, none⟩)) (w.alloc (.cells v.cells T)) := by
    simp only [Instr.alloc, zeroValue, typeInfo, hi, hv, newVar, newRow, newObj, program, Sem.run_bind, Sem.run, Result.andThen_ok, Sem.run_pure]
    rfl
  rw [run_vOf hr]
  refine hK _ S _ _ (Nx.alloc (s := { rs := rs, ws := .loc d 0, pb := [(d, .box us)], nn := [d] }) (.cells v.cells T) rfl rfl rfl hlt 0 ?_) ⟨w.heap.size, 0, by simp, rfl⟩
  exact ⟨w.heap.size, 0, vs, v.cells, T, by simp, VVs.alloc hlt hn' h1, h3, by rw [hc, ← h2]; rfl, heap_alloc_new w _⟩

theorem sok_thawU {s : LSpec U} {d m E : Nat} {t : Ty} (pre post : List (AVal U)) (rest : List (Nat × Blk U)) (h : SOk U O P ops o s) (hp : s.pb = (d, .box (pre ++ .lit (.slice none 0 0) :: post)) :: rest)
    (hm : (nm s.pb ++ AVal.names U s.ws ++ s.pb.flatMap (fun x => Blk.names U x.2) ++ nm s.cb).contains m = false) :
    SOk U O P ops o { s with pb := (d, .box (pre ++ .vec m (t.width U.wd) 0 0 :: post)) :: (m, .row E t [] false) :: rest, nn := m :: s.nn } := by
  have hm' : m ∉ nm s.pb ∧ m ∉ AVal.names U s.ws ∧ (∀ x ∈ s.pb, m ∉ Blk.names U x.2) ∧ m ∉ nm s.cb := by
    have : m ∉ (nm s.pb ++ AVal.names U s.ws ++ s.pb.flatMap (fun x => Blk.names U x.2) ++ nm s.cb) := fun hin => by
      rw [List.contains_eq_mem, decide_eq_false_iff_not] at hm; exact hm hin
    simp only [List.mem_append, List.mem_flatMap, not_or, not_exists, not_and] at this
    exact ⟨this.1.1.1, this.1.1.2, this.1.2, this.2⟩
  obtain ⟨hm1, hm2, hm3, hm4⟩ := hm'
  intro S ι w a hlt hgl hrs hro hcb hown K Q hK
  refine h S ι w a hlt hgl hrs hro hcb hown K Q fun u S' ι' w' hN hu => hK u S' (fun n => if n = m then none else ι' n) w' ?_ ?_
  · have hne : ∀ n, n ∈ nm s.pb → n ≠ m := fun n hn e => hm1 (e ▸ hn)
    have hlay : ∀ n, n ≠ m → (if n = m then none else ι' n) = ι' n := fun n hn => if_neg hn
    have hpd : d ≠ m := hne d (by rw [hp]; simp)
    have hprest : ∀ x ∈ rest, x ∈ s.pb := fun x hx => by rw [hp]; exact List.mem_cons_of_mem _ hx
    refine ⟨hN.os, hN.tape, hN.output, hN.size, hN.sub, hN.new, hN.lt, hN.keep, fun n hn => ?_, fun x hx => ?_, fun n hn b c hb => ?_, fun n hn k hk hnk b c c' hb => ?_⟩
    · simp only [List.mem_cons, not_or] at hn
      show (if n = m then none else ι' n) = _
      rw [hlay n hn.1]; exact hN.lay n hn.2
    · rcases List.mem_cons.1 hx with rfl | hx
      · have hB := hN.blk (d, .box (pre ++ .lit (.slice none 0 0) :: post)) (by rw [hp]; exact List.mem_cons_self)
        have hnB := hm3 (d, .box (pre ++ .lit (.slice none 0 0) :: post)) (by rw [hp]; exact List.mem_cons_self)
        have hB' := BR.mono (ι' := fun n => if n = m then none else ι' n) (fun _ _ => rfl) (fun _ h => h) (hlay d hpd) (fun k hk => hlay k fun e => hnB (e ▸ hk)) (fun _ _ _ => rfl) hB
        obtain ⟨b, c, vs, arr, e, h1, h2, h3, h4, h5⟩ := hB'
        obtain ⟨v1, v2, rfl, h6, h7⟩ := VVs.append.1 h2
        simp only [VVs] at h7
        obtain ⟨u', us', rfl, h8, h9⟩ := h7
        obtain ⟨rfl, _⟩ := h8
        exact ⟨b, c, v1 ++ .slice none 0 0 :: us', arr, e, h1, VVs.append.2 ⟨v1, _, rfl, h6, ⟨_, _, rfl, .inl ⟨if_pos rfl, rfl, rfl, rfl⟩, h9⟩⟩, h3, h4, h5⟩
      · rcases List.mem_cons.1 hx with rfl | hx
        · exact .inl ⟨if_pos rfl, rfl, rfl⟩
        · have hx' := hprest x hx
          exact BR.mono (fun _ _ => rfl) (fun _ h => h) (hlay _ (hne _ (mem_nm hx'))) (fun k hk => hlay k fun e => hm3 x hx' (e ▸ hk)) (fun _ _ _ => rfl) (hN.blk x hx')
    · have hn' : n = m ∨ n ∈ nm s.pb := by
        rw [hp]; simp only [nm, List.map_cons, List.mem_cons] at hn ⊢
        rcases hn with h | h | h
        · exact .inr (.inl h)
        · exact .inl h
        · exact .inr (.inr h)
      rcases hn' with rfl | hn'
      · simp at hb
      · rw [show (if n = m then none else ι' n) = ι' n from hlay n (hne n hn')] at hb
        exact hN.plc n hn' b c hb
    · have key : ∀ n, n ∈ nm ((d, Blk.box (pre ++ .vec m (t.width U.wd) 0 0 :: post)) :: (m, Blk.row E t [] false) :: rest) → n = m ∨ n ∈ nm s.pb := fun n hn => by
        rw [hp]; simp only [nm, List.map_cons, List.mem_cons] at hn ⊢
        rcases hn with h | h | h
        · exact .inr (.inl h)
        · exact .inl h
        · exact .inr (.inr h)
      rcases key n hn with rfl | hn'
      · simp at hb
      · rcases key k hk with rfl | hk'
        · simp
        · rw [show (if n = m then none else ι' n) = ι' n from hlay n (hne n hn')] at hb
          rw [show (if k = m then none else ι' k) = ι' k from hlay k (hne k hk')]
          exact hN.sep n hn' k hk' hnk b c c' hb
  · exact VV.mono (fun _ _ => rfl) (fun _ h => h) _ _ (fun n hn => if_neg fun (e : n = m) => hm2 (e ▸ hn)) hu

theorem sok_indexA {T E : TypeId} {t : Ty} {n off q N : Nat} {x y : Operand} {k : IntKind} {i : Int} (hg : o.guard = none) (ho : o.op = .indexAddr T x y) (hT : P.underlying T = some (.array N E)) (hE : TyOk P U E t)
    (hx : Opd U rs x (.loc n off)) (hq : off = q * t.width U.wd) (hy : Opd U rs y (.p (.int k) i)) (hi : 0 ≤ i ∧ i < (N : Int)) :
    SOk U O P ops o { rs := rs, ws := .eloc n (t.width U.wd) (q + i.toNat) 0 } :=
  sok_v hg _ (fun _ => exec_indexAddr ho) fun S ι w a hrs _ => by
    obtain ⟨b, c, hn, hv⟩ := hx.ev hrs
    refine ⟨.pointer (some ⟨b, off + i.toNat * t.width U.wd, none⟩), ?_, b, c, hn, by rw [hq, Nat.add_mul]; simp⟩
    rw [hv, VV.int_iff.1 (hy.ev hrs)]
    simp only [Instr.indexAt, Instr.sureAddr, asIntOf, Sem.run_bind, Sem.run_pure, Result.andThen_ok, run_underlying hT, if_pos hi, run_sizeOf hE, Addr.add_lit]

theorem sok_shl {t t' : TypeId} {x y : Operand} {k k' : IntKind} {m n : Int} (hg : o.guard = none) (ho : o.op = .binOp .shl t x y t') (hx : Opd U rs x (.p (.int k) m)) (hy : Opd U rs y (.p (.int k') n)) (hn : 0 ≤ n) :
    SOk U O P ops o { rs := rs, ws := .p (.int k) (k.wrap (m * 2 ^ (min n.toNat k.bits))) } :=
  sok_v hg _ (fun _ => exec_bin ho) fun S ι w a hrs _ => ⟨.int k (k.wrap (m * 2 ^ (min n.toNat k.bits))), by
    rw [VV.int_iff.1 (hx.ev hrs), VV.int_iff.1 (hy.ev hrs)]
    simp [go_sem, Op.shift, Int.not_lt.2 hn], VV.int_iff.2 rfl⟩
theorem sok_shr {t t' : TypeId} {x y : Operand} {k k' : IntKind} {m n : Int} (hg : o.guard = none) (ho : o.op = .binOp .shr t x y t') (hx : Opd U rs x (.p (.int k) m)) (hy : Opd U rs y (.p (.int k') n)) (hn : 0 ≤ n) :
    SOk U O P ops o { rs := rs, ws := .p (.int k) (m.fdiv (2 ^ (min n.toNat k.bits))) } :=
  sok_v hg _ (fun _ => exec_bin ho) fun S ι w a hrs _ => ⟨.int k (m.fdiv (2 ^ (min n.toNat k.bits))), by
    rw [VV.int_iff.1 (hx.ev hrs), VV.int_iff.1 (hy.ev hrs)]
    simp [go_sem, Op.shift, Int.not_lt.2 hn], VV.int_iff.2 rfl⟩
end
end Go.AM

namespace Go.AM
set_option linter.unusedSimpArgs false

section
variable {U : Univ} {O : Out} {P : Program} {S : Nat → Prop} {ι : Lay} {w : World} {rs : List (Nat × AVal U)} {a : Act} {ops : Array Oper} {o : Oper}

inductive CompS (U : Univ) : (t : Ty) → t.den U.T → Nat → (t' : Ty) → t'.den U.T → t.den U.T → Prop
  | here {t : Ty} {x z : t.den U.T} : CompS U t x 0 t z z
  | fst {a b : Ty} {x x' : a.den U.T} {y : b.den U.T} {o : Nat} {t : Ty} {z : t.den U.T} : CompS U a x o t z x' → CompS U (.pair a b) (x, y) o t z (x', y)
  | snd {a b : Ty} {x : a.den U.T} {y y' : b.den U.T} {o k : Nat} {t : Ty} {z : t.den U.T} : CompS U b y o t z y' → k = a.width U.wd + o → CompS U (.pair a b) (x, y) k t z (x, y')
  | named {n : Nat} {x x' : U.T n} {o : Nat} {t : Ty} {z : t.den U.T} : CompS U (U.body n) (U.out n x) o t z (U.out n x') → CompS U (.named n) x o t z x'
  | arr {n : Nat} {e : Ty} {xs : List (e.den U.T)} {i o k : Nat} {x x' : e.den U.T} {t : Ty} {z : t.den U.T} : xs[i]? = some x → CompS U e x o t z x' → k = i * e.width U.wd + o → CompS U (.arr n e) xs k t z (upd xs i x')

def splice (l : List Value) (m : Nat) (ds : List Value) : List Value := l.take m ++ ds ++ l.drop (m + ds.length)
theorem splice_len {l ds : List Value} {m : Nat} (h : m + ds.length ≤ l.length) : (splice l m ds).length = l.length := by simp [splice]; omega
theorem splice_get {l ds : List Value} {m : Nat} (h : m + ds.length ≤ l.length) (p : Nat) : (splice l m ds)[p]? = if m ≤ p ∧ p < m + ds.length then ds[p - m]? else l[p]? := by
  unfold splice
  have h1 : (l.take m).length = m := by simp; omega
  by_cases hp : p < m
  · rw [if_neg (by omega), List.append_assoc, List.getElem?_append_left (by omega), List.getElem?_take_of_lt hp]
  · rw [List.append_assoc, List.getElem?_append_right (by omega), h1]
    by_cases hq : p < m + ds.length
    · rw [if_pos ⟨by omega, hq⟩, List.getElem?_append_left (by omega)]
    · rw [if_neg (by omega), List.getElem?_append_right (by omega), List.getElem?_drop]
      congr 1; omega

theorem CompS.set {t : Ty} {x : t.den U.T} {o : Nat} {t' : Ty} {z : t'.den U.T} {x' : t.den U.T} (h : CompS U t x o t' z x') : ∀ {cs ds : List Value}, Rd U O S w t x cs → Rd U O S w t' z ds →
    o + ds.length ≤ cs.length ∧ Rd U O S w t x' (splice cs o ds) := by
  induction h with
  | @here t x z =>
    intro cs ds h1 h2
    have e : cs.length = ds.length := h1.length.trans h2.length.symm
    refine ⟨by omega, ?_⟩
    have : splice cs 0 ds = ds := by simp [splice, e]
    rw [this]; exact h2
  | @fst a b x x' y o t z _ ih =>
    intro cs ds h1 h2
    cases h1 with
    | @pair _ _ _ _ c1 c2 ha hb =>
      obtain ⟨h3, h4⟩ := ih ha h2
      refine ⟨by rw [List.length_append]; omega, ?_⟩
      have : splice (c1 ++ c2) o ds = splice c1 o ds ++ c2 := by
        unfold splice
        rw [List.take_append_of_le_length (by omega), List.drop_append_of_le_length (by omega)]
        simp
      rw [this]; exact .pair h4 hb
  | @snd a b x y y' o k t z _ hk ih =>
    intro cs ds h1 h2
    cases h1 with
    | @pair _ _ _ _ c1 c2 ha hb =>
      obtain ⟨h3, h4⟩ := ih hb h2
      have hl := ha.length
      refine ⟨by rw [List.length_append]; omega, ?_⟩
      have : splice (c1 ++ c2) k ds = c1 ++ splice c2 o ds := by
        unfold splice
        rw [hk, ← hl, List.take_append, List.drop_append]
        have e1 : (c1.take (c1.length + o)) = c1 := List.take_of_length_le (by omega)
        have e2 : c1.drop (c1.length + o + ds.length) = [] := List.drop_of_length_le (by omega)
        rw [e1, e2]
        have e3 : c1.length + o - c1.length = o := by omega
        have e4 : c1.length + o + ds.length - c1.length = o + ds.length := by omega
        rw [e3, e4]; simp
      rw [this]; exact .pair ha h4
  | named _ ih =>
    intro cs ds h1 h2
    cases h1 with
    | named _ _ h =>
      obtain ⟨h3, h4⟩ := ih h h2
      exact ⟨h3, .named _ _ h4⟩
  | @arr n e xs i o k x x' t z hx _ hk ih =>
    intro cs ds h1 h2
    have hlen := h1.length
    cases h1 with
    | arr _ _ _ cf hn hel =>
      obtain ⟨hi, hx⟩ := List.getElem?_eq_some_iff.1 hx
      obtain ⟨h3, h4⟩ := ih (hx ▸ hel i hi) h2
      have hce := (hel i hi).length
      have hcl : ∀ j, j < n → (cf j).length = e.width U.wd := fun j hj => (hel j (by omega)).length
      have hmul : (i + 1) * e.width U.wd ≤ n * e.width U.wd := Nat.mul_le_mul_right _ (by omega)
      rw [Nat.add_mul] at hmul
      have hlen' : ((List.range n).flatMap cf).length = n * e.width U.wd := hlen
      have hfit : k + ds.length ≤ ((List.range n).flatMap cf).length := by rw [hlen', hk]; omega
      refine ⟨hfit, ?_⟩
      have hcl' : ∀ j, j < n → (if j = i then splice (cf i) o ds else cf j).length = e.width U.wd := fun j hj => by
        split
        · rw [splice_len h3]; exact hce
        · exact hcl j hj
      have : splice ((List.range n).flatMap cf) k ds = (List.range n).flatMap fun j => if j = i then splice (cf i) o ds else cf j := by
        refine List.ext_getElem? fun p => ?_
        by_cases hp : p < n * e.width U.wd
        · have hw : 0 < e.width U.wd := by
            rcases Nat.eq_zero_or_pos (e.width U.wd) with h | h
            · rw [h] at hp; omega
            · exact h
          have hj : p / e.width U.wd < n := Nat.div_lt_of_lt_mul (by rwa [Nat.mul_comm])
          have hr : p % e.width U.wd < e.width U.wd := Nat.mod_lt _ hw
          have hpe : p / e.width U.wd * e.width U.wd + p % e.width U.wd = p := Nat.div_add_mod' _ _
          generalize p / e.width U.wd = j at hj hpe
          generalize p % e.width U.wd = r at hr hpe
          subst hpe
          rw [flatMap_range_get n _ _ hcl' j r hj hr, splice_get hfit]
          have g := flatMap_range_get n _ cf hcl j r hj hr
          by_cases hji : j = i
          · subst hji
            rw [if_pos rfl, splice_get h3]
            by_cases hin : o ≤ r ∧ r < o + ds.length
            · rw [if_pos hin, if_pos ⟨by omega, by omega⟩]; congr 1; omega
            · rw [if_neg hin, if_neg (by omega), g]
          · rw [if_neg hji, if_neg, g]
            rintro ⟨h5, h6⟩
            rw [hk] at h5 h6
            rcases Nat.lt_or_ge j i with h | h
            · have := Nat.mul_le_mul_right (e.width U.wd) (show j + 1 ≤ i by omega)
              rw [Nat.add_mul] at this; omega
            · have := Nat.mul_le_mul_right (e.width U.wd) (show i + 1 ≤ j by omega)
              rw [Nat.add_mul] at this; omega
        · rw [List.getElem?_eq_none (by rw [splice_len hfit, hlen']; omega), List.getElem?_eq_none (by rw [flatMap_range_length n _ _ hcl']; omega)]
      rw [this]
      refine .arr n e _ _ (by rw [upd_length]; exact hn) fun j hj => ?_
      by_cases hji : j = i
      · subst hji
        rw [if_pos rfl]
        have : (upd xs j x')[j]'hj = x' := by simp [upd]
        rw [this]; exact h4
      · rw [if_neg hji]
        rw [upd_length] at hj
        have : (upd xs i x')[j]'(by rw [upd_length]; exact hj) = xs[j] := by simp [upd, Ne.symm hji]
        rw [this]; exact hel j hj

inductive Place (U : Univ) : AVal U → Nat → Nat → Prop
  | loc (n off : Nat) : Place U (.loc n off) n off
  | eloc (n wd i b : Nat) {off : Nat} : off = i * wd + b → Place U (.eloc n wd i b) n off
theorem Place.ev {v : AVal U} {n off : Nat} (h : Place U v n off) {u : Value} (hv : VV U O S ι w v u) : ∃ b c, ι n = some (b, c) ∧ u = .pointer (some ⟨b, off, none⟩) := by
  cases h with
  | loc => exact hv
  | eloc _ _ _ _ e => subst e; exact hv

theorem sok_loadU {T : TypeId} {t t' : Ty} {n p o' off : Nat} {x : Operand} (pre post : List (AVal U)) {X : t.den U.T} {Z : t'.den U.T} {v : AVal U} (hg : o.guard = none) (ho : o.op = .load T x) (ht : TyOk P U T t')
    (hx : Opd U rs x v) (hp : Place U v n off) (hpre : pre.all AVal.unit = true) (hp0 : unitsW pre = p) (hoff : off = p + o') (hc : Comp U t X o' t' Z) :
    SOk U O P ops o { rs := rs, ro := [(n, .box (pre ++ [.p t X] ++ post))], ws := .p t' Z } :=
  sok_v hg _ (fun _ => exec_load ho) fun S ι w a hrs hro => by
    obtain ⟨b, c, v1, v2, v3, arr, ety, h1, h2, h3, h4, h5, h6, h7, h8, _⟩ := box_parts (hro _ List.mem_cons_self) hpre (by rfl)
    obtain ⟨b', c', h9, h10⟩ := hp.ev (hx.ev hrs)
    rw [h1] at h9
    obtain ⟨rfl, rfl⟩ : b = b' ∧ c = c' := by simpa using h9
    simp only [VVs] at h3
    obtain ⟨u, _, rfl, ⟨cs, hr, rfl⟩, rfl⟩ := h3
    have hcs : cellsOf [mkV t.isAgg cs] = cs := by simp [cellsOf, hr.cells]
    rw [hcs] at h5 h8
    obtain ⟨cs', hr', hle, hget⟩ := hc.get hr
    refine ⟨mkV t'.isAgg cs', ?_, cs', hr', rfl⟩
    rw [h10]
    refine run_loadAt ht hr'.length fun j hj => ?_
    have hl := hr.length
    rw [cell_of_row w b _ arr _ (0, 0) h6, ← Array.getElem?_toList, h5, List.append_assoc, List.getElem?_append_right (by omega), h7, hp0, List.getElem?_append_left (by omega), ← hget j hj]
    congr 1
    omega

theorem sok_storeU {T : TypeId} {t t' : Ty} {n p o' off : Nat} {x y : Operand} (pre post : List (AVal U)) {X X' : t.den U.T} {Z : t'.den U.T} {v : AVal U} (hg : o.guard = none) (_ : o.dst = none) (ho : o.op = .store T x y)
    (ht : TyOk P U T t') (hx : Opd U rs x v) (hp : Place U v n off) (hy : Opd U rs y (.p t' Z)) (hpre : pre.all AVal.unit = true) (hp0 : unitsW pre = p) (hoff : off = p + o') (hc : CompS U t X o' t' Z X') :
    SOk U O P ops o { rs := rs, cb := [(n, .box (pre ++ [.p t X] ++ post))], pb := [(n, .box (pre ++ [.p t X'] ++ post))] } := by
  intro S ι w a hlt hgl hrs hro hcb hown K Q hK
  obtain ⟨b, c, v1, v2, v3, arr, e, h1, h2, h3, h4, h5, h6, h7, h8, h9⟩ := box_parts (hcb _ List.mem_cons_self) hpre (by rfl)
  obtain ⟨b', c', h10, h11⟩ := hp.ev (hx.ev hrs)
  rw [h1] at h10
  obtain ⟨rfl, rfl⟩ : b = b' ∧ c = c' := by simpa using h10
  simp only [VVs] at h3
  obtain ⟨u, _, rfl, ⟨cs, hr, rfl⟩, rfl⟩ := h3
  have hcs : cellsOf [mkV t.isAgg cs] = cs := by simp [cellsOf, hr.cells]
  rw [hcs] at h5 h8
  obtain ⟨ds, hd, hdv⟩ := hy.ev hrs
  obtain ⟨hfit, hnew⟩ := hc.set hr hd
  have hdc : (a.eval y).cells.toList = ds := by rw [hdv, hd.cells]
  have hsz : (a.eval y).cells.size = t'.width U.wd := by rw [← Array.length_toList, hdc]; exact hd.length
  have hcl := hr.length
  have hlen : arr.size = p + t.width U.wd + (cellsOf v3).length := by rw [← Array.length_toList, h5]; simp [h7, hcl, hp0]; omega
  have hst := run_storeCells_at P b off e ds 0 arr w h6 (by rw [hlen, hoff]; omega) (by intro v hv; exact hd.one v hv)
  refine opWp_plain hg ?_
  unfold Oper.wp
  rw [exec_store ho]
  have hr' : (Instr.storeAt T (a.eval x) (a.eval y)).run P w = .ok () (w.setRow b (cellsOf v1 ++ splice cs o' ds ++ cellsOf v3).toArray) := by
    rw [h11]
    simp only [Instr.storeAt, Instr.sureAddr, storeVar, Sem.run_bind, Sem.run_pure, Result.andThen_ok, run_sizeOf ht, hsz, ne_eq, not_true_eq_false, if_false, hdc]
    rw [show (storeCells ⟨b, off, none⟩ ds) = storeCells ⟨b, off, none⟩ ds 0 from rfl, hst]
    congr 2
    have e1 : (cellsOf v1 ++ cs ++ cellsOf v3).take (off + 0) = cellsOf v1 ++ cs.take o' := by
      rw [Nat.add_zero, hoff, List.append_assoc, List.take_append, h7, hp0, List.take_of_length_le (by omega), show p + o' - p = o' by omega, List.take_append_of_le_length (by omega)]
    have e2 : (cellsOf v1 ++ cs ++ cellsOf v3).drop (off + 0 + ds.length) = cs.drop (o' + ds.length) ++ cellsOf v3 := by
      rw [Nat.add_zero, hoff, List.append_assoc, List.drop_append, h7, hp0, List.drop_of_length_le (by omega), show p + o' + ds.length - p = o' + ds.length by omega, List.drop_append_of_le_length (by omega)]
      simp
    rw [h5, e1, e2]
    unfold splice
    simp
  simp only [Sem.run_bind, hr', Result.andThen_ok, Sem.run_pure, Oper.upon]
  refine hK undef S ι _ (Nx.setRow (n := n) (b := b) (c := c) rfl rfl h1 (hown.out n (by simp) b c h1).1 hlt h6 ?_) trivial
  have hst' : ∀ k, S k → (w.setRow b (cellsOf v1 ++ splice cs o' ds ++ cellsOf v3).toArray).heap[k]? = w.heap[k]? := fun k hk => setRow_other w b k _ fun e' => (hown.out n (by simp) b c h1).1 (e' ▸ hk)
  have hnew' : Rd U O S (w.setRow b (cellsOf v1 ++ splice cs o' ds ++ cellsOf v3).toArray) t X' (splice cs o' ds) := hnew.mono hst' fun _ h => h
  refine ⟨b, c, v1 ++ [mkV t.isAgg (splice cs o' ds)] ++ v3, _, e, h1, ?_, ?_, ?_, setRow_heap w b arr _ e _ h6⟩
  · exact VVs.append.2 ⟨v1 ++ [_], v3, rfl, VVs.append.2 ⟨v1, [_], rfl, VVs.mono hst' (fun _ h => h) _ _ (fun _ _ => rfl) h2, ⟨_, [], rfl, ⟨_, hnew', rfl⟩, rfl⟩⟩, VVs.mono hst' (fun _ h => h) _ _ (fun _ _ => rfl) h4⟩
  · intro v hv
    rcases List.mem_append.1 hv with hv | hv
    · rcases List.mem_append.1 hv with hv | hv
      · exact (VVs.cells hpre h2).2 v hv
      · simp at hv; subst hv; rw [hnew.cells]; exact hnew.one
    · exact h9 v hv
  · show _ = cellsOf _
    rw [cellsOf_append, cellsOf_append]
    simp [cellsOf, hnew.cells]

theorem sok_storeE {T E : TypeId} {t t' : Ty} {n i off : Nat} {xs : List (t.den U.T)} {fx : Bool} {x y : Operand} {e e' : t.den U.T} {Z : t'.den U.T} (hg : o.guard = none) (_ : o.dst = none) (ho : o.op = .store T x y)
    (ht : TyOk P U T t') (hx : Opd U rs x (.eloc n (t.width U.wd) i off)) (hy : Opd U rs y (.p t' Z)) (he : xs[i]? = some e) (hc : CompS U t e off t' Z e') :
    SOk U O P ops o { rs := rs, cb := [(n, .row E t xs fx)], pb := [(n, .row E t (upd xs i e') fx)] } := by
  intro S ι w a hlt hgl hrs hro hcb hown K Q hK
  obtain ⟨b, c, hn, hv⟩ := hx.ev hrs
  obtain ⟨hi, he⟩ := List.getElem?_eq_some_iff.1 he
  rcases hcb _ List.mem_cons_self with ⟨h1, _⟩ | ⟨b', c', arr, cs, h1, h2, h3, h4, h5, h6, h7, h8⟩
  · rw [hn] at h1; cases h1
  rw [hn] at h1
  obtain ⟨rfl, rfl⟩ : b = b' ∧ c = c' := by simpa using h1
  obtain ⟨ds, hd, hdv⟩ := hy.ev hrs
  obtain ⟨hfit, hnew⟩ := hc.set (he ▸ h7 i hi) hd
  have hdc : (a.eval y).cells.toList = ds := by rw [hdv, hd.cells]
  have hsz : (a.eval y).cells.size = t'.width U.wd := by rw [← Array.length_toList, hdc]; exact hd.length
  have hcl : ∀ j, j < xs.length → (cs j).length = t.width U.wd := fun j hj => (h7 j hj).length
  have hmul : (i + 1) * t.width U.wd ≤ c * t.width U.wd := Nat.mul_le_mul_right _ (by omega)
  rw [Nat.add_mul] at hmul
  have hci := hcl i hi
  have hal : arr.toList.length = arr.size := Array.length_toList
  have hfit' : i * t.width U.wd + off + ds.length ≤ arr.toList.length := by rw [hal, h3]; omega
  have hst := run_storeCells_at P b (i * t.width U.wd + off) E ds 0 arr w h2 (by omega) (by intro v hv; exact hd.one v hv)
  refine opWp_plain hg ?_
  unfold Oper.wp
  rw [exec_store ho]
  have hr' : (Instr.storeAt T (a.eval x) (a.eval y)).run P w = .ok () (w.setRow b (splice arr.toList (i * t.width U.wd + off) ds).toArray) := by
    rw [hv]
    simp only [Instr.storeAt, Instr.sureAddr, storeVar, Sem.run_bind, Sem.run_pure, Result.andThen_ok, run_sizeOf ht, hsz, ne_eq, not_true_eq_false, if_false, hdc]
    rw [show (storeCells ⟨b, i * t.width U.wd + off, none⟩ ds) = storeCells ⟨b, i * t.width U.wd + off, none⟩ ds 0 from rfl, hst]
    rfl
  simp only [Sem.run_bind, hr', Result.andThen_ok, Sem.run_pure, Oper.upon]
  refine hK undef S ι _ (Nx.setRow (n := n) (b := b) (c := c) rfl rfl hn (hown.out n (by simp) b c hn).1 hlt h2 ?_) trivial
  have hst' : ∀ k, S k → (w.setRow b (splice arr.toList (i * t.width U.wd + off) ds).toArray).heap[k]? = w.heap[k]? := fun k hk => setRow_other w b k _ fun e' => (hown.out n (by simp) b c hn).1 (e' ▸ hk)
  refine .inr ⟨b, c, _, fun j => if j = i then splice (cs i) off ds else cs j, hn, setRow_heap w b arr _ E _ h2, ?_, h4, by rw [upd_length]; exact h5, by rw [upd_length]; exact h6, fun j hj => ?_, fun j r hj hr => ?_⟩
  · rw [← h3]; simp [splice_len hfit']
  · by_cases hji : j = i
    · subst hji
      simp only [if_true]
      have : (upd xs j e')[j]'hj = e' := by simp [upd]
      rw [this]; exact hnew.mono hst' fun _ h => h
    · rw [upd_length] at hj
      simp only [if_neg hji]
      have : (upd xs i e')[j]'(by rw [upd_length]; exact hj) = xs[j] := by simp [upd, List.getElem_set, Ne.symm hji]
      rw [this]; exact (h7 j hj).mono hst' fun _ h => h
  · rw [upd_length] at hj
    have g := h8 j r hj hr
    have g2 : arr.toList[j * t.width U.wd + r]? = (cs j)[r]? := by rw [← g]; exact Array.getElem?_toList
    rw [List.getElem?_toArray, splice_get hfit']
    by_cases hji : j = i
    · subst hji
      simp only [if_true]
      rw [splice_get hfit]
      by_cases hin : off ≤ r ∧ r < off + ds.length
      · rw [if_pos hin, if_pos ⟨by omega, by omega⟩]; congr 1; omega
      · rw [if_neg hin, if_neg (by omega), g2]
    · simp only [if_neg hji]
      rw [if_neg, g2]
      rintro ⟨h9, h10⟩
      rcases Nat.lt_or_ge j i with h | h
      · have := Nat.mul_le_mul_right (t.width U.wd) (show j + 1 ≤ i by omega)
        rw [Nat.add_mul] at this; omega
      · have := Nat.mul_le_mul_right (t.width U.wd) (show i + 1 ≤ j by omega)
        rw [Nat.add_mul] at this; omega

theorem sok_indexR {T E : TypeId} {t : Ty} {N : Nat} {x y : Operand} {k : IntKind} {i : Int} {xs : List (t.den U.T)} {e : t.den U.T} (hg : o.guard = none) (ho : o.op = .index T x y) (hT : P.underlying T = some (.array N E))
    (hE : TyOk P U E t) (hx : Opd U rs x (.p (.arr N t) xs)) (hy : Opd U rs y (.p (.int k) i)) (he : idx xs i = some e) : SOk U O P ops o { rs := rs, ws := .p t e } :=
  sok_v hg _ (fun _ => exec_index ho) fun S ι w a hrs _ => by
    obtain ⟨cs, hr, hv⟩ := hx.ev hrs
    unfold idx at he
    split at he
    case isFalse => cases he
    rename_i h0
    obtain ⟨hi, he⟩ := List.getElem?_eq_some_iff.1 he
    have hl := hr.length
    cases hr with
    | arr _ _ _ cf hn hel =>
    have hce := (he ▸ hel i.toNat hi : Rd U O S w t e (cf i.toNat))
    refine ⟨mkV t.isAgg (cf i.toNat), ?_, cf i.toNat, hce, rfl⟩
    rw [hv, VV.int_iff.1 (hy.ev hrs)]
    simp only [Instr.index, asIntOf, mkV, Ty.isAgg, Sem.run_bind, Sem.run_pure, Result.andThen_ok, run_underlying hT, if_pos (show 0 ≤ i ∧ i < (N : Int) by omega), run_sizeOf hE]
    refine run_part hE hce.length (fun j hj => ?_) width_one w
    rw [List.getElem?_toArray]
    exact flatMap_range_get N _ cf (fun k hk => (hel k (by omega)).length) i.toNat j (by omega) hj

theorem exec_makeFunc {ρ : Operand → Value} {f : Fn} {fs cs : Array Operand} (ho : o.op = .makeFunc f fs cs) : execOp ρ o = vOf (Instr.makeFunc f (fs.map ρ) (cs.map ρ)) := by unfold execOp; rw [ho]; rfl

theorem sok_makeFunc {f : FuncId} {cs : Array Operand} {vs : List (AVal U)} (hg : o.guard = none) (ho : o.op = .makeFunc (.func f) #[] cs) (ha : Opds U rs cs.toList vs) : SOk U O P ops o { rs := rs, ws := .clo f vs } :=
  sok_v hg _ (fun _ => exec_makeFunc ho) fun S ι w a hrs _ => by
    refine ⟨.func (.func f) #[] (cs.map a.eval), by simp [Instr.makeFunc, Sem.run_pure], cs.toList.map a.eval, ha.ev hrs, ?_⟩
    congr 1
    rw [← Array.toList_map, Array.toArray_toList]
end
end Go.AM

namespace Go.AM

section
variable {U : Univ} {O : Out} {P : Program} {S : Nat → Prop} {ι : Lay} {w : World} {rs : List (Nat × AVal U)} {a : Act} {ops : Array Oper} {o : Oper}

inductive Callee (U : Univ) (rs : List (Nat × AVal U)) : Operand → FuncId → List (AVal U) → Prop
  | func (f : FuncId) : Callee U rs (.func f) f []
  | clo {x : Operand} {f : FuncId} {caps : List (AVal U)} : Opd U rs x (.clo f caps) → Callee U rs x f caps

theorem Callee.ev {x : Operand} {f : FuncId} {caps : List (AVal U)} (h : Callee U rs x f caps) (hr : ∀ x ∈ rs, VV U O S ι w x.2 (a.tmps.getD x.1 undef)) :
    ∃ vs, VVs U O S ι w caps vs ∧ a.eval x = .func (.func f) #[] vs.toArray := by
  cases h with
  | func => exact ⟨[], rfl, rfl⟩
  | clo h => exact h.ev hr

theorem oper_callC {f : FuncId} {x : Operand} {vs : List Value} {as : Array Operand} {ts : Array TypeId} (ho : o.op = .call { callee := .value x, args := as, argTypes := ts })
    (hb : HasBody P f) (hx : a.eval x = .func (.func f) #[] vs.toArray) {K : Act → World → Prop} {Q : Exit → Act → World → Prop} {R : Value → World → Prop}
    (hc : Calls P f ((as.toList.map a.eval ++ vs).toArray) w fun e w' => ∃ u, e = .returned u ∧ R u w') (hK : ∀ u w', R u w' → K (a.put o.dst u) w') : o.wp P a w K Q := by
  obtain ⟨fn, hf, hname, hbd⟩ := hb.h
  have e : as.map a.eval ++ vs.toArray = (as.toList.map a.eval ++ vs).toArray := by
    rw [← List.append_toArray, ← Array.toList_map, Array.toArray_toList]
  unfold Oper.wp execOp
  simp only [ho, resolve, hx, invoke, Deferred.ofValue, Sem.run_bind, Sem.run_pure, Result.andThen_ok, Array.empty_append, run_enter hf hname hbd, Oper.upon, e]
  refine hc.mono ?_
  rintro e w' ⟨u, rfl, hr⟩
  exact hK u w' hr

theorem sok_callF {x : Operand} {f : FuncId} {caps : List (AVal U)} {as : Array Operand} {ts : Array TypeId} {c : CSpec U} {vs : List (AVal U)} {vw : List (Nat × Blk U)}
    (hg : o.guard = none) (ho : o.op = .call { callee := .value x, args := as, argTypes := ts }) (hx : Callee U rs x f caps) (hb : HasBody P f) (hc : COk U O P f c)
    (ha : Opds U rs as.toList vs) (hv : Views U vw (vs ++ caps) c.ar) (hd : ∀ n ∈ nm vw, n ∉ nm c.bs) :
    SOk U O P ops o { rs := rs, cb := vw ++ c.bs, ws := c.r, pb := c.bs', nn := c.nn } := by
  intro S ι w a hlt hgl hrs hro hcb hown K Q hK
  refine opWp_plain hg ?_
  have hown : Own S ι w (nm (vw ++ c.bs)) := by simpa using hown
  have hin : ∀ n ∈ nm c.bs, n ∈ nm (vw ++ c.bs) := fun n hn => by simp only [nm, List.map_append, List.mem_append]; exact .inr hn
  have hinv : ∀ n ∈ nm vw, n ∈ nm (vw ++ c.bs) := fun n hn => by simp only [nm, List.map_append, List.mem_append]; exact .inl hn
  obtain ⟨us, hus, hxe⟩ := hx.ev (a := a) hrs
  have hro' : ∀ x ∈ vw, BR U O S ι w x.1 x.2 := fun x hx => hcb x (List.mem_append.2 (.inl hx))
  have hargs : VVs U O S ι w (vs ++ caps) (as.toList.map a.eval ++ us) := VVs.append.2 ⟨_, _, rfl, ha.ev hrs, hus⟩
  have hC := hc (fun b => S b ∨ Shown ι (nm vw) b) ι w (as.toList.map a.eval ++ us) (fun b hb => hb.elim (hlt b) fun ⟨n, hn, cc, h⟩ => (hown.out n (hinv n hn) b cc h).2) (hgl.mono (fun _ _ => rfl) fun _ h => .inl h) (hv.ev hro' hargs)
    (fun x hx => BR.mono (fun _ _ => rfl) (fun _ h => .inl h) rfl (fun _ _ => rfl) (fun _ _ _ => rfl) (hcb x (List.mem_append.2 (.inr hx))))
    ⟨fun n hn b cc h => ⟨fun hS => hS.elim (hown.out n (hin n hn) b cc h).1 fun ⟨m, hm, c', h'⟩ =>
      hown.sep n (hin n hn) m (hinv m hm) (fun e => hd m hm (e ▸ hn)) b cc c' h h', (hown.out n (hin n hn) b cc h).2⟩, fun n hn m hm => hown.sep n (hin n hn) m (hin m hm)⟩
  refine oper_callC ho hb hxe (R := fun u w' => ∃ S' ι', Nx U O { rs := rs, cb := vw ++ c.bs, ws := c.r, pb := c.bs', nn := c.nn : LSpec U } S ι w S' ι' w' ∧ VV U O S' ι' w' c.r u) ?_ ?_
  · refine hC.mono ?_
    rintro e w' ⟨u, S', ι', rfl, hN, hu⟩
    refine ⟨u, rfl, S', ι', ⟨hN.os, hN.tape, hN.output, hN.size, fun b hb => hN.sub b (.inl hb), ?_, hN.lt, fun b hb hnot => hN.keep b hb fun n hn => hnot n (hin n hn), hN.lay, hN.blk, fun n hn b cc h => ?_, hN.sep⟩, hu⟩
    · intro b hS
      rcases hN.new b hS with (h | ⟨n, hn, cc, h⟩) | h | ⟨m, hm, cc, h⟩
      · exact .inl h
      · exact .inr (.inr ⟨n, hinv n hn, cc, h⟩)
      · exact .inr (.inl h)
      · exact .inr (.inr ⟨m, hin m hm, cc, h⟩)
    · obtain ⟨h1, h2, h3⟩ := hN.plc n hn b cc h
      exact ⟨h1, h2, h3.imp id fun ⟨m, hm, c', h'⟩ => ⟨m, hin m hm, c', h'⟩⟩
  · rintro u w' ⟨S', ι', hN, hu⟩
    exact hK u S' ι' w' hN hu

theorem sok_callV {x : Operand} {f : FuncId} {caps : List (AVal U)} {as : Array Operand} {ts : Array TypeId} {c : CSpec U} {vs : List (AVal U)} {vw : List (Nat × Blk U)}
    (hg : o.guard = none) (ho : o.op = .call { callee := .value x, args := as, argTypes := ts }) (hx : Callee U rs x f caps) (hb : HasBody P f) (hc : COk U O P f c)
    (ha : Opds U rs as.toList vs) (hv : Views U vw (vs ++ caps) c.ar) (hd : ∀ n ∈ nm vw, n ∉ nm c.bs) (hf : vw = [] ∨ c.flat = true) :
    SOk U O P ops o { rs := rs, ro := vw, cb := c.bs, ws := c.r, pb := c.bs', nn := c.nn } := by
  intro S ι w a hlt hgl hrs hro hcb hown K Q hK
  refine opWp_plain hg ?_
  have hin : ∀ n ∈ nm c.bs, n ∈ nm vw ++ nm c.bs := fun n hn => List.mem_append.2 (.inr hn)
  have hinv : ∀ n ∈ nm vw, n ∈ nm vw ++ nm c.bs := fun n hn => List.mem_append.2 (.inl hn)
  obtain ⟨us, hus, hxe⟩ := hx.ev (a := a) hrs
  have hargs : VVs U O S ι w (vs ++ caps) (as.toList.map a.eval ++ us) := VVs.append.2 ⟨_, _, rfl, ha.ev hrs, hus⟩
  have hC := hc (fun b => S b ∨ Shown ι (nm vw) b) ι w (as.toList.map a.eval ++ us) (fun b hb => hb.elim (hlt b) fun ⟨n, hn, cc, h⟩ => (hown.out n (hinv n hn) b cc h).2) (hgl.mono (fun _ _ => rfl) fun _ h => .inl h) (hv.ev hro hargs)
    (fun x hx => BR.mono (fun _ _ => rfl) (fun _ h => .inl h) rfl (fun _ _ => rfl) (fun _ _ _ => rfl) (hcb x hx))
    ⟨fun n hn b cc h => ⟨fun hS => hS.elim (hown.out n (hin n hn) b cc h).1 fun ⟨m, hm, c', h'⟩ =>
      hown.sep n (hin n hn) m (hinv m hm) (fun e => hd m hm (e ▸ hn)) b cc c' h h', (hown.out n (hin n hn) b cc h).2⟩, fun n hn m hm => hown.sep n (hin n hn) m (hin m hm)⟩
  refine oper_callC ho hb hxe (R := fun u w' => ∃ S' ι', Nx U O { rs := rs, ro := vw, cb := c.bs, ws := c.r, pb := c.bs', nn := c.nn : LSpec U } S ι w S' ι' w' ∧ VV U O S' ι' w' c.r u) ?_ ?_
  · refine hC.mono ?_
    rintro e w' ⟨u, S', ι', rfl, hN, hu⟩
    refine ⟨u, rfl, fun b => S' b ∧ ¬ Shown ι (nm vw) b, ι', ⟨hN.os, hN.tape, hN.output, hN.size, fun b hb => ⟨hN.sub b (.inl hb), ?_⟩, ?_, fun b hb => hN.lt b hb.1, hN.keep, hN.lay, fun x hx => ?_,
      fun n hn b cc h => ⟨fun hS => (hN.plc n hn b cc h).1 hS.1, (hN.plc n hn b cc h).2⟩, hN.sep⟩, ?_⟩
    · rintro ⟨n, hn, cc, h⟩
      exact (hown.out n (hinv n hn) b cc h).1 hb
    · rintro b ⟨hS, hnot⟩
      rcases hN.new b hS with (h | h) | h
      · exact .inl h
      · exact absurd h hnot
      · exact .inr h
    · rcases hf with rfl | hf
      · exact BR.mono (fun _ _ => rfl) (fun b h => ⟨h, fun ⟨n, hn, _⟩ => by cases hn⟩) rfl (fun _ _ => rfl) (fun _ _ _ => rfl) (hN.blk x hx)
      · simp only [CSpec.flat, Bool.and_eq_true, List.all_eq_true] at hf
        exact (hN.blk x hx).flat (hf.2 x hx)
    · rcases hf with rfl | hf
      · exact VV.mono (fun _ _ => rfl) (fun b h => ⟨h, fun ⟨n, hn, _⟩ => by cases hn⟩) _ _ (fun _ _ => rfl) hu
      · simp only [CSpec.flat, Bool.and_eq_true, List.all_eq_true] at hf
        exact VV.flat _ _ hf.1 hu
  · rintro u w' ⟨S', ι', hN, hu⟩
    exact hK u S' ι' w' hN hu

theorem sok_freezeW {s : LSpec U} {d E len : Nat} {t : Ty} {xs : List (t.den U.T)} {fx : Bool} (h : SOk U O P ops o s) (hw : s.ws = .vec d (t.width U.wd) 0 len) (hl : len = xs.length) (hp : s.pb = [(d, .row E t xs fx)]) (hn : s.nn = [d]) :
    SOk U O P ops o { s with ws := .p (.list t) xs, pb := [], nn := [] } := by
  intro S ι w a hlt hgl hrs hro hcb hown K Q hK
  refine h S ι w a hlt hgl hrs hro hcb hown K Q fun u S' ι' w' hN hu => ?_
  have hB := hN.blk (d, .row E t xs fx) (by rw [hp]; exact List.mem_cons_self)
  have hplc : ∀ b c, ι' d = some (b, c) → ¬ S' b ∧ b < w'.heap.size ∧ (w.heap.size ≤ b ∨ ∃ m ∈ nm s.cb, ∃ c', ι m = some (b, c')) := fun b c hb => hN.plc d (by rw [hp]; simp) b c hb
  refine hK u (fun b => S' b ∨ ∃ c, ι' d = some (b, c)) ι w' ⟨hN.os, hN.tape, hN.output, hN.size, fun b hb => .inl (hN.sub b hb), fun b hb => ?_, fun b hb => ?_, hN.keep, fun _ _ => rfl, fun x hx => (by cases hx), fun n hn => (by cases hn), fun n hn => (by cases hn)⟩ ?_
  · rcases hb with hb | ⟨c, hb⟩
    · exact hN.new b hb
    · exact .inr (hplc b c hb).2.2
  · rcases hb with hb | ⟨c, hb⟩
    · exact hN.lt b hb
    · exact (hplc b c hb).2.1
  · rw [hw] at hu
    have hv := (View.row (vw := [(d, Blk.row E t xs fx)]) 0 len (List.mem_cons_self) (by omega)).ev (fun x hx => by simp at hx; subst hx; exact hB) hu
    have e : ((xs.drop 0).take len) = xs := by rw [hl]; simp
    rw [e] at hv
    have hv' := VV.mono (ι' := ι) (fun _ _ => rfl) (S' := fun b => S' b ∨ ∃ c, ι' d = some (b, c)) (fun b hb => ?_) (.p (.list t) xs) u (fun n hn => by cases hn) hv
    · exact hv'
    · rcases hb with hb | ⟨m, hm, c, hc⟩
      · exact .inl hb
      · simp at hm; subst hm; exact .inr ⟨c, hc⟩

def lays (P : Program) (T : TypeId) : Option (List Value × (Nat → Option (Nat × Nat))) :=
  match P.info? T, P.underlying T with
  | some it, some (.array _ e) =>
    match it.zero, P.info? e with
    | some z, some ie => some (z.cells.toList, fun i => some (i * ie.size, ie.size))
    | _, _ => none
  | some it, some (.struct fields) =>
    match it.zero, fields.toList.mapM (fun f => (P.info? f.type).map fun i => (f.offset, i.size)) with
    | some z, some places => some (z.cells.toList, fun i => places.toArray[i]?)
    | _, _ => none
  | _, _ => none

theorem built_lays {T : TypeId} {z : List Value} {pl : Nat → Option (Nat × Nat)} (h : lays P T = some (z, pl)) (parts : List (Nat × Value)) : P.built T parts = Instr.fill pl z.toArray parts := by
  unfold lays at h
  unfold Program.built
  split at h
  · rename_i it e h1 h2
    rw [h1, h2]
    simp only
    split at h
    · rename_i z' ie h3 h4
      rw [h3, h4]
      injection h with h; injection h with h5 h6
      subst h5 h6; simp
    · cases h
  · rename_i it fields h1 h2
    rw [h1, h2]
    simp only
    split at h
    · rename_i z' places h3 h4
      rw [h3, h4]
      injection h with h; injection h with h5 h6
      subst h5 h6; simp
    · cases h
  · cases h

inductive Filled (U : Univ) (rs : List (Nat × AVal U)) (pl : Nat → Option (Nat × Nat)) : List (Nat × Operand) → List (AVal U) → List (AVal U) → Prop
  | nil (us : List (AVal U)) : Filled U rs pl [] us us
  | cons {i : Nat} {x : Operand} {v : AVal U} (pre mid mid' post : List (AVal U)) {l : List (Nat × Operand)} {us us' : List (AVal U)} : Opd U rs x v → Units U v mid' → us = pre ++ mid ++ post → pre.all AVal.unit = true → mid.all AVal.unit = true →
      mid'.all AVal.unit = true → pl i = some (unitsW pre, unitsW mid') → unitsW mid' = unitsW mid → Filled U rs pl l (pre ++ mid' ++ post) us' → Filled U rs pl ((i, x) :: l) us us'

theorem Filled.ev {pl : Nat → Option (Nat × Nat)} {l : List (Nat × Operand)} {us us' : List (AVal U)} (h : Filled U rs pl l us us') (hr : ∀ x ∈ rs, VV U O S ι w x.2 (a.tmps.getD x.1 undef)) :
    ∀ {vs : List Value} {arr : Array Value}, VVs U O S ι w us vs → (∀ v ∈ vs, ∀ c ∈ v.cells.toList, c.oneCell' = true) → arr.toList = cellsOf vs →
    ∃ out vs', Instr.fill pl arr (l.map fun x => (x.1, a.eval x.2)) = some out ∧ VVs U O S ι w us' vs' ∧ out.toList = cellsOf vs' ∧ ∀ v ∈ vs', ∀ c ∈ v.cells.toList, c.oneCell' = true := by
  induction h with
  | nil us => intro vs arr h1 h3 h2; exact ⟨arr, vs, rfl, h1, h2, h3⟩
  | @cons i x v pre mid mid' post l us us' hx hu he hpre hmid hmid' hpl hw _ ih =>
    intro vs arr h1 h3 h2
    subst he
    obtain ⟨v12, v3, rfl, h6, h7⟩ := VVs.append.1 h1
    obtain ⟨v1, v2, rfl, h8, h9⟩ := VVs.append.1 h6
    obtain ⟨ws, a1, a2, a3, a4⟩ := hu.to hmid' (hx.ev hr)
    have l1 := (VVs.cells hpre h8).1
    have l2 := (VVs.cells hmid h9).1
    have hsz : (a.eval x).cells.size = unitsW mid' := by rw [← Array.length_toList, a2, a4]
    have hal : arr.toList.length = unitsW pre + unitsW mid + (cellsOf v3).length := by rw [h2]; simp [cellsOf_append, l1, l2]; omega
    have hal' : arr.toList.length = arr.size := Array.length_toList
    have hfold := fold_cells' (unitsW pre) (a.eval x).cells arr (by rw [hsz, hw]; omega)
    have e1 : (cellsOf (v1 ++ v2 ++ v3)).take (unitsW pre) = cellsOf v1 := by
      rw [cellsOf_append, cellsOf_append, List.append_assoc]; exact List.take_left' l1
    have e2 : (cellsOf (v1 ++ v2 ++ v3)).drop (unitsW pre + (a.eval x).cells.size) = cellsOf v3 := by
      rw [cellsOf_append, cellsOf_append, hsz, hw]; exact List.drop_left' (by rw [List.length_append, l1, l2])
    rw [h2, e1, e2, a2] at hfold
    obtain ⟨out, vs', b1, b2, b3, b4⟩ := ih (vs := v1 ++ ws ++ v3) (arr := (a.eval x).cells.zipIdx.foldl (fun cs (x : Value × Nat) => cs.setIfInBounds (unitsW pre + x.2) x.1) arr)
      (VVs.append.2 ⟨v1 ++ ws, v3, rfl, VVs.append.2 ⟨v1, ws, rfl, h8, a1⟩, h7⟩) (fun v hv => by
        rcases List.mem_append.1 hv with hv | hv
        · rcases List.mem_append.1 hv with hv | hv
          · exact h3 v (List.mem_append.2 (.inl (List.mem_append.2 (.inl hv))))
          · exact a3 v hv
        · exact h3 v (List.mem_append.2 (.inr hv))) (by rw [hfold, cellsOf_append, cellsOf_append])
    refine ⟨out, vs', ?_, b2, b3, b4⟩
    rw [List.map_cons]
    unfold Instr.fill
    rw [hpl]
    simp only [hsz, ne_eq, not_true_eq_false]
    rw [if_neg (by simp; omega)]
    exact b1

theorem exec_build {ρ : Operand → Value} {T : TypeId} {ps : Array (Nat × Operand)} (ho : o.op = .build T ps) : execOp ρ o = vOf (Instr.build T (ps.map fun (i, x) => (i, ρ x))) := by unfold execOp; rw [ho]; rfl

theorem sok_build {T : TypeId} {t : Ty} {ps : Array (Nat × Operand)} {z : List Value} {pl : Nat → Option (Nat × Nat)} {us0 us : List (AVal U)} {v : AVal U} (hg : o.guard = none) (ho : o.op = .build T ps) (hl : lays P T = some (z, pl))
    (hz : ZU U us0 z) (hf : Filled U rs pl ps.toList us0 us) (hag : t.isAgg = true) (hm : Made U t us v) : SOk U O P ops o { rs := rs, ws := v } :=
  sok_v hg _ (fun _ => exec_build ho) fun S ι w a hrs _ => by
    obtain ⟨vs, h1, h2, h3⟩ := hz.to (O := O) (S := S) (ι := ι) (w := w)
    obtain ⟨out, vs', b1, b2, b3, _⟩ := hf.ev hrs h1 h3 (arr := z.toArray) (by rw [h2])
    refine ⟨.agg out, run_build w T _ out ?_, ?_⟩
    · rw [built_lays hl, ← b1]; congr 1; rw [Array.toList_map]
    · have := hm.of b2
      rw [hag] at this
      rw [show out = (cellsOf vs').toArray from by rw [← b3]]
      exact this
end
end Go.AM

namespace Go.AM
set_option linter.unusedVariables false
theorem notin_of {l : List Nat} {d : Nat} (h : l.contains d = false) : d ∉ l := fun hin => by rw [List.contains_eq_mem, decide_eq_false_iff_not] at h; exact h hin
section
variable {U : Univ} {O : Out} {P : Program} {S : Nat → Prop} {ι : Lay} {w : World} {rs : List (Nat × AVal U)} {a : Act} {ops : Array Oper} {o : Oper}

inductive ResL (U : Univ) (P : Program) (st : St U) : List ResultVar → List (AVal U) → Prop
  | nil : ResL U P st [] []
  | tmp {t : Nat} {v : AVal U} {l : List ResultVar} {vs : List (AVal U)} (h : (t, v) ∈ st.sl) : ResL U P st l vs → ResL U P st (.tmp t :: l) (v :: vs)
  | cell {b : Nat} {T : TypeId} {t : Ty} {n off : Nat} (pre mid post : List (AVal U)) {v : AVal U} {l : List ResultVar} {vs : List (AVal U)} (h : (b, .loc n off) ∈ st.sl) (hb : (n, .box (pre ++ mid ++ post)) ∈ st.hp)
      (hpre : pre.all AVal.unit = true) (hoff : unitsW pre = off) (hmid : mid.all AVal.unit = true) (hw : unitsW mid = t.width U.wd) (ht : TyOk P U T t) (hm : Made U t mid v) : ResL U P st l vs → ResL U P st (.cell b T :: l) (v :: vs)

def resOne (tmps : Array Value) : ResultVar → Sem Value
  | .tmp t => pure (tmps.getD t undef)
  | .cell b t => do loadVar t (← asAddr (tmps.getD b undef))
theorem results_eq (fn : Func) (tmps : Array Value) : results fn tmps = (do
    let vs ← fn.results.mapM (resOne tmps)
    pure (if h : vs.size = 1 then vs[0] else .tuple vs)) := by
  unfold results
  have : (fun x => match x with | ResultVar.tmp t => (pure (tmps.getD t undef) : Sem Value) | ResultVar.cell a t => do loadVar t (← asAddr (tmps.getD a undef))) = resOne tmps := by
    funext x; cases x <;> rfl
  rw [← this]
  rfl

theorem ResL.ev {B : Base} {st : St U} {l : List ResultVar} {vs : List (AVal U)} (h : ResL U P st l vs) {a : Act} (hR : Rel U O B S ι st a w) :
    ∃ us, (l.mapM (resOne a.tmps)).run P w = .ok us w ∧ VVs U O S ι w vs us := by
  induction h with
  | nil => exact ⟨[], by simp, rfl⟩
  | tmp h _ ih =>
    obtain ⟨us, h1, h2⟩ := ih
    exact ⟨_ :: us, by simp [List.mapM_cons, resOne, h1], _, us, rfl, hR.sl _ h, h2⟩
  | @cell b T t n off pre mid post v l vs h hb hpre hoff hmid hw ht hm _ ih =>
    obtain ⟨us, h1, h2⟩ := ih
    obtain ⟨bk, c, v1, v2, v3, arr, e, g1, g2, g3, g4, g5, g6, g7, g8, _⟩ := box_parts (hR.hp _ hb) hpre hmid
    obtain ⟨b', c', g9, g10⟩ := hR.sl _ h
    rw [g1] at g9
    obtain ⟨rfl, rfl⟩ : bk = b' ∧ c = c' := by simpa using g9
    have hl : (loadVar T ⟨bk, off, none⟩).run P w = .ok (mkV t.isAgg (cellsOf v2)) w := by
      have := run_loadAt (w := w) ht (bl := bk) (of := off) (cs := cellsOf v2) (by rw [g8, hw]) fun j hj => by
        rw [cell_of_row w bk (off + j) arr e (0, 0) g6, ← Array.getElem?_toList, g5, List.append_assoc, List.getElem?_append_right (by omega), g7, hoff, List.getElem?_append_left (by omega)]
        congr 1
        omega
      simpa only [Instr.loadAt, Instr.sureAddr, Sem.run_bind, Sem.run_pure, Result.andThen_ok] using this
    refine ⟨mkV t.isAgg (cellsOf v2) :: us, ?_, _, us, rfl, hm.of g3, h2⟩
    simp only at g10
    simp only [List.mapM_cons, resOne, g10, asAddr, Sem.run_bind, Sem.run_pure, Result.andThen_ok, hl, h1]

def resOf : List (AVal U) → AVal U
  | [v] => v
  | vs => .tup vs

theorem retV_L {fn : Func} {st : St U} {l : List ResultVar} {vs : List (AVal U)} (hf : fn.results.toList = l) (h : ResL U P st l vs) : RetV U O P fn st (resOf vs) := by
  intro B S ι a w hR
  obtain ⟨us, h1, h2⟩ := h.ev hR
  subst hf
  refine ⟨if h : us.toArray.size = 1 then us.toArray[0] else .tuple us.toArray, ?_, ?_⟩
  · rw [results_eq]
    simp only [Array.mapM_eq_mapM_toList, Sem.run_bind]
    simp [h1]
  · match vs, us, h2 with
    | [], us, h2 => simp only [VVs] at h2; subst h2; exact ⟨[], rfl, rfl⟩
    | [v], us, h2 =>
      simp only [VVs] at h2
      obtain ⟨u, us', rfl, h3, rfl⟩ := h2
      exact h3
    | v :: v' :: vs, us, h2 =>
      have h2' := h2
      simp only [VVs] at h2
      obtain ⟨u, us', rfl, h3, u', us'', rfl, h4, h5⟩ := h2
      exact ⟨u :: u' :: us'', h2', by simp⟩

theorem sok_compl {t : TypeId} {x : Operand} {k : IntKind} {n : Int} (hg : o.guard = none) (ho : o.op = .unOp .xor t x) (hx : Opd U rs x (.p (.int k) n)) :
    SOk U O P ops o { rs := rs, ws := .p (.int k) (bits .xor k (if k.signed then -1 else k.max) n) } :=
  sok_v hg _ (fun _ => exec_un ho) fun S ι w a hrs _ => ⟨.int k (bits .xor k (if k.signed then -1 else k.max) n), by
    rw [VV.int_iff.1 (hx.ev hrs)]
    rfl, VV.int_iff.2 rfl⟩

theorem eqGuard_agg {op : BinOp} {t : TypeId} {x y : Operand} {a b : Array Value} (hq : P.eqGuardType P.depth t = false) (w : World) : (eqGuard op t x y (.agg a) (.agg b)).run P w = .ok () w := by
  unfold eqGuard
  cases op <;> simp [program, Sem.run, hq]

end
end Go.AM

namespace Go.AM
set_option linter.unusedVariables false

section
variable {U : Univ} {O : Out}
theorem rd_falses (n : Nat) (O : Out) (S : Nat → Prop) (w : World) : Rd U O S w (.arr n .bool) (List.replicate n false) ((List.range n).flatMap fun _ => [.bool false]) :=
  .arr n .bool _ _ (List.length_replicate (n := n) (a := false)) fun i hi => by
    have : (List.replicate n false)[i]'hi = false := List.getElem_replicate ..
    rw [show ((List.replicate n false : List (Ty.bool.den U.T))[i]'hi) = false from this]
    exact .bool false

theorem Conv.freezeU {st : St U} (n m E len : Nat) (ty : Ty) (xs : List (ty.den U.T)) (fx : Bool) (pre post : List (AVal U)) (hin : (n, Blk.box (pre ++ .vec m (ty.width U.wd) 0 len :: post)) ∈ st.hp) (hlen : len = xs.length)
    (hb : (m, Blk.row E ty xs fx) ∈ st.hp) (hne : (n == m) = false) :
    Conv U O st ⟨st.sl, (setA st.hp n (.box (pre ++ .p (.list ty) xs :: post))).filter fun x => !(x.1 == m)⟩ := by
  have hne' : n ≠ m := by simpa using hne
  intro B S ι a w hR
  have hB := hR.hp _ hb
  have hX := hR.hp _ hin
  have hmem : ∀ x ∈ (setA st.hp n (.box (pre ++ .p (.list ty) xs :: post))).filter (fun x => !(x.1 == m)), (x = (n, .box (pre ++ .p (.list ty) xs :: post)) ∨ x ∈ st.hp ∧ x.1 ≠ n) ∧ x.1 ≠ m := fun x hx => by
    obtain ⟨h1, h2⟩ := List.mem_filter.1 hx
    exact ⟨mem_setA h1, by simpa using h2⟩
  have hmn : ∀ k ∈ nm ((setA st.hp n (.box (pre ++ .p (.list ty) xs :: post))).filter fun x => !(x.1 == m)), k ∈ nm st.hp ∧ k ≠ m := fun k hk => by
    obtain ⟨x, hx, rfl⟩ := List.mem_map.1 hk
    obtain ⟨h1, h2⟩ := hmem x hx
    refine ⟨?_, h2⟩
    rcases h1 with rfl | ⟨h1, _⟩
    · exact List.mem_map.2 ⟨_, hin, rfl⟩
    · exact mem_nm h1
  have hmin : m ∈ nm st.hp := mem_nm hb
  have hSS : ∀ b, S b → (S b ∨ ∃ c, ι m = some (b, c)) := fun b h => .inl h
  refine ⟨fun b => S b ∨ ∃ c, ι m = some (b, c), ι, { hR with sl := fun x hx => ?_, hp := fun x hx => ?_, own := ⟨fun k hk b c hb => ?_, fun k hk j hj => hR.own.sep k (hmn k hk).1 j (hmn j hj).1⟩, mine := (fun k hk => hR.mine k (hmn k hk).1), lt := fun b h => ?_, gl := hR.gl.mono (fun _ _ => rfl) (fun _ h => .inl h), sub := fun b h => .inl (hR.sub b h), new := fun b h => ?_ }⟩
  · exact VV.mono (fun _ _ => rfl) hSS _ _ (fun _ _ => rfl) (hR.sl x hx)
  · obtain ⟨h1, h2⟩ := hmem x hx
    rcases h1 with rfl | ⟨h1, _⟩
    · obtain ⟨b, c, vs, arr, e, g1, g2, g3, g4, g5⟩ := hX
      obtain ⟨v1, v2, rfl, g6, g7⟩ := VVs.append.1 g2
      simp only [VVs] at g7
      obtain ⟨u, us', rfl, g8, g9⟩ := g7
      have hv := (View.row (vw := [(m, Blk.row E ty xs fx)]) 0 len (List.mem_cons_self) (by omega)).ev (fun x hx => by simp at hx; subst hx; exact hB) g8
      have e' : ((xs.drop 0).take len) = xs := by rw [hlen]; simp
      rw [e'] at hv
      have hv' : VV U O (fun b => S b ∨ ∃ c, ι m = some (b, c)) ι w (.p (.list ty) xs) u := VV.mono (fun _ _ => rfl) (fun b hb => by
        rcases hb with hb | ⟨k, hk, c, hc⟩
        · exact .inl hb
        · simp at hk; subst hk; exact .inr ⟨c, hc⟩) _ _ (fun _ _ => rfl) hv
      exact ⟨b, c, v1 ++ u :: us', arr, e, g1, VVs.append.2 ⟨v1, _, rfl, VVs.mono (fun _ _ => rfl) hSS _ _ (fun _ _ => rfl) g6, ⟨u, us', rfl, hv', VVs.mono (fun _ _ => rfl) hSS _ _ (fun _ _ => rfl) g9⟩⟩, g3, g4, g5⟩
    · exact BR.mono (fun _ _ => rfl) hSS rfl (fun _ _ => rfl) (fun _ _ _ => rfl) (hR.hp x h1)
  · refine ⟨fun h => ?_, (hR.own.out k (hmn k hk).1 b c hb).2⟩
    rcases h with h | ⟨c', h⟩
    · exact (hR.own.out k (hmn k hk).1 b c hb).1 h
    · exact hR.own.sep k (hmn k hk).1 m hmin (hmn k hk).2 b c c' hb h
  · rcases h with h | ⟨c, h⟩
    · exact hR.lt b h
    · exact (hR.own.out m hmin b c h).2
  · rcases h with h | ⟨c, h⟩
    · exact hR.new b h
    · exact .inr (hR.mine m hmin b c h)

section
variable {P : Program} {ops : Array Oper} {o : Oper} {rs : List (Nat × AVal U)}
theorem o0 {t : Nat} {v : AVal U} : Opd U ((t, v) :: rs) (.tmp t) v := .tmp (.head _)
theorem o1 {t : Nat} {v : AVal U} {x : Nat × AVal U} : Opd U (x :: (t, v) :: rs) (.tmp t) v := .tmp (.tail _ (.head _))
end

theorem sok_give {P : Program} {ops : Array Oper} {o : Oper} {s : LSpec U} {t n E len : Nat} {ty : Ty} {xs : List (ty.den U.T)} {fx : Bool} (pre post : List (Nat × AVal U)) (h : SOk U O P ops o s) (hin : s.rs = pre ++ (t, .p (.list ty) xs) :: post)
    (hl : len = xs.length) (hn : (nm s.ro ++ nm s.cb).contains n = false) :
    SOk U O P ops o { s with rs := pre ++ (t, .vec n (ty.width U.wd) 0 len) :: post, cb := (n, .row E ty xs fx) :: s.cb } := by
  have hn' := notin_of hn
  simp only [List.mem_append, not_or] at hn'
  intro S ι w a hlt hgl hrs hro hcb hown K Q hK
  have hB := hcb (n, .row E ty xs fx) List.mem_cons_self
  have hmem : ∀ k, k ∈ nm s.ro ++ nm s.cb → k ∈ nm s.ro ++ nm ((n, Blk.row E ty xs fx) :: s.cb) := fun k hk => by
    rcases List.mem_append.1 hk with h | h
    · exact List.mem_append.2 (.inl h)
    · exact List.mem_append.2 (.inr (List.mem_cons_of_mem _ h))
  have hnin : n ∈ nm s.ro ++ nm ((n, Blk.row E ty xs fx) :: s.cb) := List.mem_append.2 (.inr List.mem_cons_self)
  have hSS : ∀ b, S b → (S b ∨ ∃ c, ι n = some (b, c)) := fun b h => .inl h
  refine h (fun b => S b ∨ ∃ c, ι n = some (b, c)) ι w a (fun b hb => hb.elim (hlt b) fun ⟨c, hc⟩ => (hown.out n hnin b c hc).2) (hgl.mono (fun _ _ => rfl) hSS) (fun x hx => ?_)
    (fun x hx => BR.mono (fun _ _ => rfl) hSS rfl (fun _ _ => rfl) (fun _ _ _ => rfl) (hro x hx)) (fun x hx => BR.mono (fun _ _ => rfl) hSS rfl (fun _ _ => rfl) (fun _ _ _ => rfl) (hcb x (List.mem_cons_of_mem _ hx)))
    ⟨fun k hk b c hb => ⟨fun hS => hS.elim (hown.out k (hmem k hk) b c hb).1 fun ⟨c', hc'⟩ => hown.sep k (hmem k hk) n hnin (fun e => (List.mem_append.1 hk).elim (e ▸ hn'.1) (e ▸ hn'.2)) b c c' hb hc', (hown.out k (hmem k hk) b c hb).2⟩,
      fun k hk j hj => hown.sep k (hmem k hk) j (hmem j hj)⟩ K Q fun u S' ι' w' hN hu => hK u S' ι' w' ?_ hu
  · rw [hin] at hx
    rcases List.mem_append.1 hx with hx | hx
    · exact VV.mono (fun _ _ => rfl) hSS _ _ (fun _ _ => rfl) (hrs x (List.mem_append.2 (.inl hx)))
    · rcases List.mem_cons.1 hx with rfl | hx
      · have hv0 := hrs (t, .vec n (ty.width U.wd) 0 len) (List.mem_append.2 (.inr List.mem_cons_self))
        have hv := (View.row (vw := [(n, Blk.row E ty xs fx)]) 0 len (List.mem_cons_self) (by omega)).ev (fun x hx => by simp at hx; subst hx; exact hB) hv0
        have e : ((xs.drop 0).take len) = xs := by rw [hl]; simp
        rw [e] at hv
        refine VV.mono (fun _ _ => rfl) (fun b hb => ?_) _ _ (fun _ _ => rfl) hv
        rcases hb with hb | ⟨m, hm, c, hc⟩
        · exact .inl hb
        · simp at hm; subst hm; exact .inr ⟨c, hc⟩
      · exact VV.mono (fun _ _ => rfl) hSS _ _ (fun _ _ => rfl) (hrs x (List.mem_append.2 (.inr (List.mem_cons_of_mem _ hx))))
  · refine ⟨hN.os, hN.tape, hN.output, hN.size, fun b hb => hN.sub b (.inl hb), fun b hb => ?_, hN.lt, fun b hb hnot => hN.keep b hb fun k hk => hnot k (List.mem_cons_of_mem _ hk), hN.lay, hN.blk, fun k hk b c hb => ?_, hN.sep⟩
    · rcases hN.new b hb with (h | ⟨c, h⟩) | h | ⟨m, hm, c, h⟩
      · exact .inl h
      · exact .inr (.inr ⟨n, List.mem_cons_self, c, h⟩)
      · exact .inr (.inl h)
      · exact .inr (.inr ⟨m, List.mem_cons_of_mem _ hm, c, h⟩)
    · obtain ⟨h1, h2, h3⟩ := hN.plc k hk b c hb
      exact ⟨h1, h2, h3.imp id fun ⟨m, hm, c', h'⟩ => ⟨m, List.mem_cons_of_mem _ hm, c', h'⟩⟩
abbrev I6 : Ty := .int .i64
abbrev U6 : Ty := .arr 4 (.int .u64)
abbrev Z4 : List Int := List.replicate 4 (0 : Int)
end
end Go.AM

namespace Go.AM
set_option linter.unusedVariables false

def eqB {T : Nat → Type} : (t : Ty) → t.den T → t.den T → Bool
  | .bool, x, y => BEq.beq (α := Bool) x y
  | .int _, x, y => BEq.beq (α := Int) x y
  | .str, x, y => BEq.beq (α := List UInt8) x y
  | .unit, _, _ => true
  | .pair a b, x, y => eqB a x.1 y.1 && eqB b x.2 y.2
  | _, _, _ => false

section
variable {U : Univ} {O : Out} {P : Program} {S : Nat → Prop} {ι : Lay} {w : World} {rs : List (Nat × AVal U)} {a : Act} {ops : Array Oper} {o : Oper}

inductive EqOne (P : Program) : TypeId → Ty → Prop
  | bool {F : TypeId} : P.underlying F = some .bool → EqOne P F .bool
  | int {F : TypeId} {k : IntKind} : P.underlying F = some (.int k) → EqOne P F (.int k)
  | str {F : TypeId} : P.underlying F = some .string → EqOne P F .str

inductive EqF (P : Program) (U : Univ) : List Field → Nat → Ty → Prop
  | nil {off : Nat} : EqF P U [] off .unit
  | cons {f : Field} {fs : List Field} {off : Nat} {a b : Ty} : f.name ≠ "_" → f.offset = off → TyOk P U f.type a → EqOne P f.type a → EqF P U fs (off + 1) b → EqF P U (f :: fs) off (.pair a b)

theorem EqOne.run {F : TypeId} {t : Ty} (h : EqOne P F t) (d : Nat) {x y : t.den U.T} {c1 c2 : List Value} (h1 : Rd U O S w t x c1) (h2 : Rd U O S w t y c2) :
    (Op.equalIn (d + 1) F (mkV t.isAgg c1) (mkV t.isAgg c2)).run P w = .ok (eqB t x y) w ∧ c1.length = 1 ∧ c2.length = 1 := by
  cases h with
  | bool hu =>
    cases h1; cases h2
    exact ⟨by simp [Op.equalIn, run_underlying hu, mkV, Ty.isAgg, eqB], rfl, rfl⟩
  | int hu =>
    cases h1; cases h2
    exact ⟨by simp [Op.equalIn, run_underlying hu, mkV, Ty.isAgg, eqB], rfl, rfl⟩
  | str hu =>
    cases h1; cases h2
    exact ⟨by simp [Op.equalIn, run_underlying hu, mkV, Ty.isAgg, eqB, beq_toListBytes, ByteArray.toList_eq], rfl, rfl⟩

theorem EqF.run {fs : List Field} {off : Nat} {t : Ty} (h : EqF P U fs off t) (d : Nat) : ∀ {x y : t.den U.T} {c1 c2 : List Value} {xs ys : Array Value}, Rd U O S w t x c1 → Rd U O S w t y c2 →
    (∀ j, j < c1.length → xs[off + j]? = c1[j]?) → (∀ j, j < c2.length → ys[off + j]? = c2[j]?) → (Op.eqFields (d + 1) xs ys fs).run P w = .ok (eqB t x y) w := by
  induction h with
  | nil => intro x y c1 c2 xs ys _ _ _ _; simp [Op.eqFields, eqB]
  | @cons f fs off a b hn ho ht he _ ih =>
    intro x y c1 c2 xs ys h1 h2 g1 g2
    cases h1 with
    | @pair _ _ x1 x2 p1 p2 a1 a2 =>
    cases h2 with
    | @pair _ _ y1 y2 q1 q2 b1 b2 =>
    obtain ⟨e1, e2, e3⟩ := he.run (P := P) (w := w) d a1 b1
    have hp1 : (part f.type xs f.offset).run P w = .ok (mkV a.isAgg p1) w := run_part ht a1.length (fun j hj => by
      have hl := a1.length
      rw [ho, g1 j (by rw [List.length_append]; omega), List.getElem?_append_left (by omega)]) width_one w
    have hp2 : (part f.type ys f.offset).run P w = .ok (mkV a.isAgg q1) w := run_part ht b1.length (fun j hj => by
      have hl := b1.length
      rw [ho, g2 j (by rw [List.length_append]; omega), List.getElem?_append_left (by omega)]) width_one w
    have hr := ih (xs := xs) (ys := ys) a2 b2 (fun j hj => by
      have := g1 (1 + j) (by rw [List.length_append]; omega)
      rw [show off + 1 + j = off + (1 + j) by omega, this, List.getElem?_append_right (by omega)]; congr 1; omega) (fun j hj => by
      have := g2 (1 + j) (by rw [List.length_append]; omega)
      rw [show off + 1 + j = off + (1 + j) by omega, this, List.getElem?_append_right (by omega)]; congr 1; omega)
    simp only [Op.eqFields, hn, ne_eq, not_false_eq_true, if_true, Sem.run_bind, hp1, hp2, e1, Result.andThen_ok]
    show _ = Result.ok (eqB a x1 y1 && eqB b x2 y2) w
    cases eqB a x1 y1
    · simp
    · simpa using hr

end
end Go.AM
