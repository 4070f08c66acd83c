/- The abstract layer, part F: the operation of a call; arguments that are owned rows are handed over as lists for the call's time. -/
import Derived.Test.YthmbbdemecljpaaDoorK11AmE
namespace Go.AM

inductive Opds (U : Univ) (rs : List (Nat × AVal U)) : List Operand → List (AVal U) → Prop
  | nil : Opds U rs [] []
  | cons {x : Operand} {v : AVal U} {xs : List Operand} {vs : List (AVal U)} : Opd U rs x v → Opds U rs xs vs → Opds U rs (x :: xs) (v :: vs)

theorem Opds.ev {U : Univ} {O : Out} {S : Nat → Prop} {ι : Lay} {w : World} {a : Act} {rs : List (Nat × AVal U)} {xs : List Operand} {vs : List (AVal U)} (h : Opds U rs xs vs)
    (hr : ∀ x ∈ rs, VV U O S ι w x.2 (a.tmps.getD x.1 undef)) : VVs U O S ι w vs (xs.map a.eval) := by
  induction h with
  | nil => simp [VVs]
  | cons h _ ih => exact ⟨_, _, rfl, h.ev hr, ih⟩

mutual
def AVal.flat (U : Univ) : AVal U → Bool
  | .p t _ => t.flat U.fl
  | .pp _ _ => false
  | .clo _ vs | .agg vs | .tup vs => AVal.flatL U vs
  | _ => true
def AVal.flatL (U : Univ) : List (AVal U) → Bool
  | [] => true
  | v :: vs => AVal.flat U v && AVal.flatL U vs
end
def Blk.flat (U : Univ) : Blk U → Bool
  | .box us => AVal.flatL U us
  | .row _ t _ _ => t.flat U.fl
  | .map t _ => t.flat U.fl
  | .opt _ B => Blk.flat U B
  | .mapE t _ _ _ => t.flat U.fl
  | .iter _ _ _ _ _ _ _ => true

section
variable {U : Univ} {O : Out} {S S' : Nat → Prop} {ι : Lay} {w : World}
mutual
theorem VV.flat : ∀ (v : AVal U) (u : Value), AVal.flat U v = true → VV U O S ι w v u → VV U O S' ι w v u
  | .junk, _, _, _ => by simp [VV]
  | .lit v, u, _, h => by simpa [VV] using h
  | .p t x, u, hf, h => by
    simp only [VV] at h ⊢
    obtain ⟨cs, h1, h2⟩ := h
    exact ⟨cs, h1.flat (by simpa [AVal.flat] using hf), h2⟩
  | .pp t x, u, hf, h => by simp [AVal.flat] at hf
  | .loc n off, u, _, h => by simpa [VV] using h
  | .eloc n wd i off, u, _, h => by simpa [VV] using h
  | .vec n wd off len, u, _, h => by simpa only [VV] using h
  | .mp n, u, _, h => by simpa [VV] using h
  | .opt q n, u, _, h => by simpa only [VV] using h
  | .clo f vs, u, hf, h => by
    simp only [VV] at h ⊢
    obtain ⟨us, h1, h2⟩ := h
    exact ⟨us, VVs.flat vs us (by simpa [AVal.flat] using hf) h1, h2⟩
  | .agg vs, u, hf, h => by
    simp only [VV] at h ⊢
    obtain ⟨us, h1, h2⟩ := h
    exact ⟨us, VVs.flat vs us (by simpa [AVal.flat] using hf) h1, h2⟩
  | .tup vs, u, hf, h => by
    simp only [VV] at h ⊢
    obtain ⟨us, h1, h2⟩ := h
    exact ⟨us, VVs.flat vs us (by simpa [AVal.flat] using hf) h1, h2⟩
theorem VVs.flat : ∀ (vs : List (AVal U)) (us : List Value), AVal.flatL U vs = true → VVs U O S ι w vs us → VVs U O S' ι w vs us
  | [], us, _, h => by simpa [VVs] using h
  | v :: vs, us, hf, h => by
    simp only [AVal.flatL, Bool.and_eq_true] at hf
    simp only [VVs] at h ⊢
    obtain ⟨u, us', h1, h2, h3⟩ := h
    exact ⟨u, us', h1, VV.flat v u hf.1 h2, VVs.flat vs us' hf.2 h3⟩
end

theorem EntsR.flat {t : Ty} (hf : t.flat U.fl = true) : ∀ {es : List MapEntry} {ys : List (List UInt8 × t.den U.T)}, EntsR U O S w t es ys → EntsR U O S' w t es ys
  | [], _, h => h
  | _ :: _, _, ⟨y, r, h1, h2, ⟨cs, h3, h4⟩, h5⟩ => ⟨y, r, h1, h2, ⟨cs, h3.flat hf, h4⟩, EntsR.flat hf h5⟩

theorem BR.flat {n : Nat} {B : Blk U} (hf : Blk.flat U B = true) (h : BR U O S ι w n B) : BR U O S' ι w n B := by
  induction B with
  | box us =>
    obtain ⟨b, c, vs, arr, e, h1, h2, h3, h4, h5⟩ := h
    exact ⟨b, c, vs, arr, e, h1, VVs.flat us vs hf h2, h3, h4, h5⟩
  | row e t xs fx =>
    rcases h with ⟨h1, h2⟩ | ⟨b, c, arr, cs, h1, h2, h3, h4, h5, h6, h7, h8⟩
    · exact .inl ⟨h1, h2⟩
    · exact .inr ⟨b, c, arr, cs, h1, h2, h3, h4, h5, h6, fun i hi => (h7 i hi).flat hf, h8⟩
  | map t kvs =>
    obtain ⟨b, c, es, clock, ys, h1, h2, h3, h4, h5, h6⟩ := h
    exact ⟨b, c, es, clock, ys, h1, h2, h3, h4.flat hf, h5, h6⟩
  | opt q B ih => exact fun hq => ih hf (h hq)
  | mapE t es clock ys =>
    obtain ⟨b, c, h1, h2, h3, h4⟩ := h
    exact ⟨b, c, h1, h2, h3, h4.flat hf⟩
  | iter m t es clock ys left cur => exact h
end

/-- An argument as the callee sees it: an owned row may be shown as a list. -/
inductive View (U : Univ) (vw : List (Nat × Blk U)) : AVal U → AVal U → Prop
  | same (v : AVal U) : View U vw v v
  | row {n e : Nat} {t : Ty} {xs : List (t.den U.T)} {fx : Bool} (off len : Nat) (h : (n, Blk.row e t xs fx) ∈ vw) (hl : off + len ≤ xs.length) :
      View U vw (.vec n (t.width U.wd) off len) (.p (.list t) ((xs.drop off).take len))
  | nilL (t : Ty) : View U vw (.lit (.slice none 0 0)) (.p (.list t) ([] : List (t.den U.T)))
  | nilE : View U vw (.lit .nilIface) (.p .err (0 : Nat))
  | agg {us : List (AVal U)} {n : Nat} {x : U.T n} (h : ∀ (O : Out) (S : Nat → Prop) (ι : Lay) (w : World) (u : Value), (∀ x ∈ vw, BR U O S ι w x.1 x.2) → VV U O S ι w (.agg us) u →
      VV U O (fun b => S b ∨ ∃ n ∈ nm vw, ∃ c, ι n = some (b, c)) ι w (.p (.named n) x) u) : View U vw (.agg us) (.p (.named n) x)

inductive Views (U : Univ) (vw : List (Nat × Blk U)) : List (AVal U) → List (AVal U) → Prop
  | nil : Views U vw [] []
  | cons {v v' : AVal U} {vs vs' : List (AVal U)} : View U vw v v' → Views U vw vs vs' → Views U vw (v :: vs) (v' :: vs')

section
variable {U : Univ} {O : Out} {P : Program} {S : Nat → Prop} {ι : Lay} {w : World}

/-- The blocks that are shown. -/
def Shown (ι : Lay) (ns : List Nat) : Nat → Prop := fun b => ∃ n ∈ ns, ∃ c, ι n = some (b, c)

theorem View.ev {vw : List (Nat × Blk U)} {v v' : AVal U} {u : Value} (h : View U vw v v') (hb : ∀ x ∈ vw, BR U O S ι w x.1 x.2) (hu : VV U O S ι w v u) :
    VV U O (fun b => S b ∨ Shown ι (nm vw) b) ι w v' u := by
  cases h with
  | same => exact VV.mono (fun _ _ => rfl) (fun _ h => .inl h) _ _ (fun _ _ => rfl) hu
  | nilL t => obtain ⟨rfl, _⟩ := hu; exact ⟨_, .lnil t, rfl⟩
  | nilE => obtain ⟨rfl, _⟩ := hu; exact ⟨_, .err0, rfl⟩
  | agg h => exact h O S ι w u hb hu
  | @row n e t xs fx off len hin hl =>
    simp only [VV] at hu
    have hB := hb _ hin
    rcases hu with ⟨hn, rfl, rfl, rfl⟩ | ⟨b, c, o, hn, hoc, rfl, ho⟩
    · exact VV.list_iff.2 (.inl ⟨by simp, rfl⟩)
    · rcases hB with ⟨h1, _⟩ | ⟨b', c', arr, cs, h1, h2, h3, h4, h5, h6, h7, h8⟩
      · rw [hn] at h1; cases h1
      · skip
        rw [hn] at h1
        obtain ⟨rfl, rfl⟩ : b = b' ∧ c = c' := by simpa using h1
        have hlen : ((xs.drop off).take len).length = len := by simp; omega
        refine VV.list_iff.2 (.inr (.inr ⟨b, o, c - off, fun i => cs (off + i), by rw [hlen], .inr ⟨n, mem_nm hin, c, hn⟩, by omega, fun i hi => ?_, fun i j hi hj => ?_⟩))
        · have : ((xs.drop off).take len)[i] = xs[off + i]'(by omega) := by simp
          rw [this]
          exact (h7 (off + i) (by omega)).mono (fun _ _ => rfl) (fun _ h => .inl h)
        · rw [hlen] at hi
          rw [← h8 (off + i) j (by omega) hj]
          have ho' : o = off * t.width U.wd := by
            rcases ho with ho | ho
            · exact ho
            · omega
          subst ho'
          simp only [World.cell?, h2, Option.isSome_none, Bool.false_eq_true, if_false]
          congr 1
          rw [Nat.add_mul]; omega

theorem Views.ev {vw : List (Nat × Blk U)} {vs vs' : List (AVal U)} (h : Views U vw vs vs') (hb : ∀ x ∈ vw, BR U O S ι w x.1 x.2) :
    ∀ {us : List Value}, VVs U O S ι w vs us → VVs U O (fun b => S b ∨ Shown ι (nm vw) b) ι w vs' us := by
  induction h with
  | nil => intro us h; simpa [VVs] using h
  | cons hv _ ih =>
    intro us h
    simp only [VVs] at h ⊢
    obtain ⟨u, us', rfl, h1, h2⟩ := h
    exact ⟨u, us', rfl, hv.ev hb h1, ih h2⟩

/-- What a call may hand back where rows were shown to it: nothing that could lie in them. -/
def CSpec.flat (c : CSpec U) : Bool := AVal.flat U c.r && c.bs'.all fun x => Blk.flat U x.2

theorem sok_call {ops : Array Oper} {o : Oper} {rs : List (Nat × AVal U)} {f : FuncId} {as : Array Operand} {ts : Array TypeId} {c : CSpec U} {vs : List (AVal U)} {vw : List (Nat × Blk U)}
    (hg : o.guard = none) (ho : o.op = .call { callee := .value (.func f), args := as, argTypes := ts }) (hb : HasBody P f) (hc : COk U O P f c)
    (ha : Opds U rs as.toList vs) (hv : Views U vw vs c.ar) (hd : ∀ n ∈ nm vw, n ∉ nm c.bs) (hf : vw = [] ∨ c.flat = true) :
    SOk U O P ops o { rs := rs, ro := vw, cb := c.bs, ws := c.r, pb := c.bs', nn := c.nn } := by
  intro S ι w a hlt hgl hrs hro hcb hown K Q hK
  refine opWp_plain hg ?_
  have hin : ∀ n ∈ nm c.bs, n ∈ nm vw ++ nm c.bs := fun n hn => List.mem_append.2 (.inr hn)
  have hinv : ∀ n ∈ nm vw, n ∈ nm vw ++ nm c.bs := fun n hn => List.mem_append.2 (.inl hn)
  have hargs : as.map a.eval = (as.toList.map a.eval).toArray := by rw [← Array.toList_map, Array.toArray_toList]
  have hC := hc (fun b => S b ∨ Shown ι (nm vw) b) ι w (as.toList.map a.eval) (fun b hb => hb.elim (hlt b) fun ⟨n, hn, cc, h⟩ => (hown.out n (hinv n hn) b cc h).2) (hgl.mono (fun _ _ => rfl) fun _ h => .inl h) (hv.ev hro (ha.ev hrs))
    (fun x hx => BR.mono (fun _ _ => rfl) (fun _ h => .inl h) rfl (fun _ _ => rfl) (fun _ _ _ => rfl) (hcb x hx))
    ⟨fun n hn b cc h => ⟨fun hS => hS.elim (hown.out n (hin n hn) b cc h).1 fun ⟨m, hm, c', h'⟩ =>
      hown.sep n (hin n hn) m (hinv m hm) (fun e => hd m hm (e ▸ hn)) b cc c' h h', (hown.out n (hin n hn) b cc h).2⟩, fun n hn m hm => hown.sep n (hin n hn) m (hin m hm)⟩
  refine oper_call ho hb (R := fun u w' => ∃ S' ι', Nx U O { rs := rs, ro := vw, cb := c.bs, ws := c.r, pb := c.bs', nn := c.nn : LSpec U } S ι w S' ι' w' ∧ VV U O S' ι' w' c.r u) ?_ ?_
  · rw [hargs]
    refine hC.mono ?_
    rintro e w' ⟨u, S', ι', rfl, hN, hu⟩
    refine ⟨u, rfl, fun b => S' b ∧ ¬ Shown ι (nm vw) b, ι', ⟨hN.os, hN.tape, hN.output, hN.size, fun b hb => ⟨hN.sub b (.inl hb), ?_⟩, ?_, fun b hb => hN.lt b hb.1, hN.keep, hN.lay, fun x hx => ?_,
      fun n hn b cc h => ⟨fun hS => (hN.plc n hn b cc h).1 hS.1, (hN.plc n hn b cc h).2⟩, hN.sep⟩, ?_⟩
    · rintro ⟨n, hn, cc, h⟩
      exact (hown.out n (hinv n hn) b cc h).1 hb
    · rintro b ⟨hS, hnot⟩
      rcases hN.new b hS with (h | h) | h
      · exact .inl h
      · exact absurd h hnot
      · exact .inr h
    · rcases hf with rfl | hf
      · exact BR.mono (fun _ _ => rfl) (fun b h => ⟨h, fun ⟨n, hn, _⟩ => by cases hn⟩) rfl (fun _ _ => rfl) (fun _ _ _ => rfl) (hN.blk x hx)
      · simp only [CSpec.flat, Bool.and_eq_true, List.all_eq_true] at hf
        exact (hN.blk x hx).flat (hf.2 x hx)
    · rcases hf with rfl | hf
      · exact VV.mono (fun _ _ => rfl) (fun b h => ⟨h, fun ⟨n, hn, _⟩ => by cases hn⟩) _ _ (fun _ _ => rfl) hu
      · simp only [CSpec.flat, Bool.and_eq_true, List.all_eq_true] at hf
        exact VV.flat _ _ hf.1 hu
  · rintro u w' ⟨S', ι', hN, hu⟩
    exact hK u S' ι' w' hN hu
end
end Go.AM
