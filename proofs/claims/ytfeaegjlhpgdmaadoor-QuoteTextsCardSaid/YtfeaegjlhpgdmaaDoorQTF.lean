/- A part of the proof of a given law: QTF. Own work, printed in part by a program of mine. -/
import Derived.Test.YtfeaegjlhpgdmaaDoorQTTy
import Derived.Test.YtfeaegjlhpgdmaaDoorPS
namespace Go.Proofs.YtfeaegjlhpgdmaaDoor
open Go Go.AM
set_option linter.unusedVariables false
set_option maxRecDepth 100000
def strings_IndexByte.f (k : Nat) (a0 : List UInt8) (a1 : Int) : Option Int := ((pIndexByte.f k a0 a1).bind fun v1 => some v1)
def quote_Blank.f (k : Nat) (a0 : Int) : Option Bool := ((strings_IndexByte.f k ([32, 9, 10] : List UInt8) a0).bind fun v1 => some (decide (v1 ≥ 0)))
def quote_skip.j2 (k : Nat) (v1 : Int) : Option Int := some v1
def quote_skip.j8 (k : Nat) (rec : Int → Option Int) (a0 : List UInt8) (v3 : Int) : Option Int := rec (IntKind.i64.wrap (v3 + 1))
def quote_skip.j11 (k : Nat) (rec : Int → Option Int) (a0 : List UInt8) (v3 : Int) (v9 : Bool) : Option Int := (if v9 then quote_skip.j8 k rec a0 v3 else some v3)
def quote_skip.l4 (k : Nat) (a0 : List UInt8) : Nat → Int → Option Int
  | 0, _ => none
  | n + 1, v3 => (if (decide (v3 < (a0.length : Int))) then ((idx a0 v3).bind fun v13 => ((quote_Blank.f k (v13.toNat : Int)).bind fun v14 => quote_skip.j11 k (quote_skip.l4 k a0 n) a0 v3 v14)) else quote_skip.j11 k (quote_skip.l4 k a0 n) a0 v3 false)
def quote_skip.f (k : Nat) (a0 : List UInt8) (a1 : Int) : Option Int := ((quote_skip.l4 k a0 k a1).bind fun o6 => quote_skip.j2 k o6)
def quote_End.j1 (k : Nat) : Option Int := some (-1)
def quote_End.j8 (k : Nat) (rec : Int → Option (Sum Unit Int)) (a0 : List UInt8) (v7 : Int) : Option (Sum Unit Int) := rec (IntKind.i64.wrap (v7 + 1))
def quote_End.j13 (k : Nat) (rec : Int → Option (Sum Unit Int)) (a0 : List UInt8) (v2 : Int) (v11 : Bool) : Option (Sum Unit Int) := (if v11 then quote_End.j8 k rec a0 (IntKind.i64.wrap (v2 + 1)) else some (Sum.inr (IntKind.i64.wrap (v2 + 1))))
def quote_End.l3 (k : Nat) (a0 : List UInt8) : Nat → Int → Option (Sum Unit Int)
  | 0, _ => none
  | n + 1, v2 => (if (decide (v2 < (a0.length : Int))) then ((idx a0 v2).bind fun v9 => (if ((v9.toNat : Int) != 39) then quote_End.j8 k (quote_End.l3 k a0 n) a0 v2 else (if (decide ((IntKind.i64.wrap (v2 + 1)) < (a0.length : Int))) then ((idx a0 (IntKind.i64.wrap (v2 + 1))).bind fun v15 => quote_End.j13 k (quote_End.l3 k a0 n) a0 v2 ((v15.toNat : Int) == 39)) else quote_End.j13 k (quote_End.l3 k a0 n) a0 v2 false))) else some (Sum.inl ()))
def quote_End.j18 (k : Nat) (a0 : List UInt8) (a1 : Int) : Option Int := ((quote_End.l3 k a0 k (IntKind.i64.wrap (a1 + 1))).bind fun o4 => match o4 with | Sum.inl u16 => quote_End.j1 k | Sum.inr u17 => some u17)
def quote_End.j21 (k : Nat) (a0 : List UInt8) (a1 : Int) (v19 : Bool) : Option Int := (if v19 then some (-1) else quote_End.j18 k a0 a1)
def quote_End.f (k : Nat) (a0 : List UInt8) (a1 : Int) : Option Int := (if (decide (a1 < 0)) then quote_End.j21 k a0 a1 true else (if (decide (a1 ≥ (a0.length : Int))) then quote_End.j21 k a0 a1 true else ((idx a0 a1).bind fun v24 => quote_End.j21 k a0 a1 ((v24.toNat : Int) != 39))))
def quote_word.j3 (k : Nat) (v1 : Int) (v2 : List Int) : Option ((List UInt8) × Int) := some ((txtOf v2), v1)
def quote_word.j20 (k : Nat) (rec : Int → (List Int) → Option (Sum (Int × (List Int)) ((List UInt8) × Int))) (a0 : List UInt8) (v4 : Int) (v5 : List Int) : Option (Sum (Int × (List Int)) ((List UInt8) × Int)) := ((idx a0 v4).bind fun v11 => (if ((v11.toNat : Int) != 39) then ((idx a0 v4).bind fun v13 => (if v5.length + [(v13.toNat : Int)].length ≤ LIM then rec (IntKind.i64.wrap (v4 + 1)) (v5 ++ [(v13.toNat : Int)]) else none)) else ((quote_End.f k a0 v4).bind fun v15 => (if (decide (v15 < 0)) then some (Sum.inr (([] : List UInt8), (-1))) else ((sub a0 (IntKind.i64.wrap (v4 + 1)) (IntKind.i64.wrap (v15 - 1))).bind fun v17 => ((pReplaceAll.f k v17 ([39, 39] : List UInt8) ([39] : List UInt8)).bind fun v18 => (if v5.length + v18.length ≤ LIM then rec v15 (v5 ++ numsOf v18) else none)))))))
def quote_word.j23 (k : Nat) (rec : Int → (List Int) → Option (Sum (Int × (List Int)) ((List UInt8) × Int))) (a0 : List UInt8) (v4 : Int) (v5 : List Int) (v21 : Bool) : Option (Sum (Int × (List Int)) ((List UInt8) × Int)) := (if v21 then quote_word.j20 k rec a0 v4 v5 else some (Sum.inl (v4, v5)))
def quote_word.l6 (k : Nat) (a0 : List UInt8) : Nat → Int → (List Int) → Option (Sum (Int × (List Int)) ((List UInt8) × Int))
  | 0, _, _ => none
  | n + 1, v4, v5 => (if (decide (v4 < (a0.length : Int))) then ((idx a0 v4).bind fun v25 => ((quote_Blank.f k (v25.toNat : Int)).bind fun v26 => quote_word.j23 k (quote_word.l6 k a0 n) a0 v4 v5 (!v26))) else quote_word.j23 k (quote_word.l6 k a0 n) a0 v4 v5 false)
def quote_word.f (k : Nat) (a0 : List UInt8) (a1 : Int) : Option ((List UInt8) × Int) := ((quote_word.l6 k a0 k a1 []).bind fun o9 => match o9 with | Sum.inl u27 => quote_word.j3 k u27.1 u27.2 | Sum.inr u28 => some u28)
def quote_Split.j2 (k : Nat) (v1 : List (List UInt8)) : Option ((List (List UInt8)) × Nat) := some (v1, 0)
def quote_Split.l6 (k : Nat) (a0 : List UInt8) : Nat → (List (List UInt8)) → Int → Option (Sum (List (List UInt8)) ((List (List UInt8)) × Nat))
  | 0, _, _ => none
  | n + 1, v4, v5 => (if (decide (v5 < (a0.length : Int))) then ((quote_word.f k a0 v5).bind fun v11 => (if (decide (v11.2 < 0)) then none else (if v4.length + [v11.1].length ≤ LIM then ((quote_skip.f k a0 v11.2).bind fun v14 => (quote_Split.l6 k a0 n) (v4 ++ [v11.1]) v14) else none))) else some (Sum.inl v4))
def quote_Split.f (k : Nat) (a0 : List UInt8) : Option ((List (List UInt8)) × Nat) := ((quote_skip.f k a0 0).bind fun v3 => ((quote_Split.l6 k a0 k [] v3).bind fun o8 => match o8 with | Sum.inl u15 => quote_Split.j2 k u15 | Sum.inr u16 => some u16))
def millwrightlaw11_alive.f (k : Nat) : Option Bool := ((quote_Split.f k ([39, 105, 116, 39, 39, 115, 39, 32, 104, 101, 114, 101] : List UInt8)).bind fun v1 => (if (v1.2 == 0) then (if ((v1.1.length : Int) == 2) then ((idx v1.1 0).bind fun v4 => (if (v4 == ([105, 116, 39, 115] : List UInt8)) then ((idx v1.1 1).bind fun v6 => some (v6 == ([104, 101, 114, 101] : List UInt8))) else some false)) else some false) else some false))
def quote_Plain.j1 (k : Nat) (a0 : List UInt8) : Option Bool := some (!(a0 == ([] : List UInt8)))
def quote_Plain.j7 (k : Nat) (rec : Int → Option (Sum Unit Bool)) (a0 : List UInt8) (v2 : Int) : Option (Sum Unit Bool) := rec (IntKind.i64.wrap (v2 + 1))
def quote_Plain.j10 (k : Nat) (rec : Int → Option (Sum Unit Bool)) (a0 : List UInt8) (v2 : Int) (v8 : Bool) : Option (Sum Unit Bool) := (if v8 then some (Sum.inr false) else quote_Plain.j7 k rec a0 v2)
def quote_Plain.l3 (k : Nat) (a0 : List UInt8) : Nat → Int → Option (Sum Unit Bool)
  | 0, _ => none
  | n + 1, v2 => (if (decide (v2 < (a0.length : Int))) then ((idx a0 v2).bind fun v11 => ((quote_Blank.f k (v11.toNat : Int)).bind fun v12 => (if v12 then quote_Plain.j10 k (quote_Plain.l3 k a0 n) a0 v2 true else ((idx a0 v2).bind fun v14 => (if ((v14.toNat : Int) == 39) then quote_Plain.j10 k (quote_Plain.l3 k a0 n) a0 v2 true else ((idx a0 v2).bind fun v16 => ((strings_IndexByte.f k ([35, 36, 96, 58, 61, 60, 92, 59, 38, 124, 40, 41, 123, 125, 91, 93, 42, 63, 94, 126] : List UInt8) (v16.toNat : Int)).bind fun v17 => quote_Plain.j10 k (quote_Plain.l3 k a0 n) a0 v2 (decide (v17 ≥ 0))))))))) else some (Sum.inl ()))
def quote_Plain.f (k : Nat) (a0 : List UInt8) : Option Bool := ((quote_Plain.l3 k a0 k 0).bind fun o4 => match o4 with | Sum.inl u18 => quote_Plain.j1 k a0 | Sum.inr u19 => some u19)
def millwrightref11_Plain.j1 (k : Nat) (a0 : List UInt8) : Option Bool := some (decide ((a0.length : Int) > 0))
def millwrightref11_Plain.j7 (k : Nat) (rec : Int → Option (Sum Unit Bool)) (a0 : List UInt8) (v2 : Int) : Option (Sum Unit Bool) := rec (IntKind.i64.wrap (v2 + 1))
def millwrightref11_Plain.l9 (k : Nat) (a0 : List UInt8) (v2 : Int) : Nat → Int → Option (Sum Unit Bool)
  | 0, _ => none
  | n + 1, v8 => (if (decide (v8 < (([39, 32, 9, 10, 35, 36, 96, 58, 61, 60, 92, 59, 38, 124, 40, 41, 123, 125, 91, 93, 42, 63, 94, 126] : List UInt8).length : Int))) then ((idx a0 v2).bind fun v13 => ((idx ([39, 32, 9, 10, 35, 36, 96, 58, 61, 60, 92, 59, 38, 124, 40, 41, 123, 125, 91, 93, 42, 63, 94, 126] : List UInt8) v8).bind fun v14 => (if ((v13.toNat : Int) == (v14.toNat : Int)) then some (Sum.inr false) else (millwrightref11_Plain.l9 k a0 v2 n) (IntKind.i64.wrap (v8 + 1))))) else some (Sum.inl ()))
def millwrightref11_Plain.l3 (k : Nat) (a0 : List UInt8) : Nat → Int → Option (Sum Unit Bool)
  | 0, _ => none
  | n + 1, v2 => (if (decide (v2 < (a0.length : Int))) then ((millwrightref11_Plain.l9 k a0 v2 k 0).bind fun o10 => match o10 with | Sum.inl u16 => millwrightref11_Plain.j7 k (millwrightref11_Plain.l3 k a0 n) a0 v2 | Sum.inr u17 => some (Sum.inr u17)) else some (Sum.inl ()))
def millwrightref11_Plain.f (k : Nat) (a0 : List UInt8) : Option Bool := ((millwrightref11_Plain.l3 k a0 k 0).bind fun o4 => match o4 with | Sum.inl u18 => millwrightref11_Plain.j1 k a0 | Sum.inr u19 => some u19)
def quote_Quote.f (k : Nat) (a0 : List UInt8) : Option (List UInt8) := ((quote_Plain.f k a0).bind fun v1 => (if v1 then some a0 else ((pReplaceAll.f k a0 ([39] : List UInt8) ([39, 39] : List UInt8)).bind fun v3 => (if ([39] : List UInt8).length + v3.length ≤ 9223372036854775807 then (if (([39] : List UInt8) ++ v3).length + ([39] : List UInt8).length ≤ 9223372036854775807 then some ((([39] : List UInt8) ++ v3) ++ ([39] : List UInt8)) else none) else none))))
def millwrightref11_Quote.j5 (k : Nat) (v3 : List UInt8) : Option (List UInt8) := (if v3.length + ([39] : List UInt8).length ≤ 9223372036854775807 then some (v3 ++ ([39] : List UInt8)) else none)
def millwrightref11_Quote.j14 (k : Nat) (rec : (List UInt8) → Int → Option (List UInt8)) (a0 : List UInt8) (v7 : Int) (v13 : List UInt8) : Option (List UInt8) := rec v13 (IntKind.i64.wrap (v7 + 1))
def millwrightref11_Quote.l8 (k : Nat) (a0 : List UInt8) : Nat → (List UInt8) → Int → Option (List UInt8)
  | 0, _, _ => none
  | n + 1, v6, v7 => (if (decide (v7 < (a0.length : Int))) then ((sub a0 v7 (IntKind.i64.wrap (v7 + 1))).bind fun v15 => (if v6.length + v15.length ≤ 9223372036854775807 then ((idx a0 v7).bind fun v17 => (if ((v17.toNat : Int) == 39) then (if (v6 ++ v15).length + ([39] : List UInt8).length ≤ 9223372036854775807 then millwrightref11_Quote.j14 k (millwrightref11_Quote.l8 k a0 n) a0 v7 ((v6 ++ v15) ++ ([39] : List UInt8)) else none) else millwrightref11_Quote.j14 k (millwrightref11_Quote.l8 k a0 n) a0 v7 (v6 ++ v15))) else none)) else some v6)
def millwrightref11_Quote.f (k : Nat) (a0 : List UInt8) : Option (List UInt8) := ((millwrightref11_Plain.f k a0).bind fun v1 => (if v1 then some a0 else ((millwrightref11_Quote.l8 k a0 k ([39] : List UInt8) 0).bind fun o10 => millwrightref11_Quote.j5 k o10)))
def millwrightref11_Blank.f (k : Nat) (a0 : Int) : Option Bool := (if (a0 == 32) then some true else (if (a0 == 9) then some true else some (a0 == 10)))
def millwrightlaw11_QuoteTexts.f (k : Nat) (a0 : List UInt8) (a1 : Int) : Option Bool := ((millwrightlaw11_alive.f k ).bind fun v1 => (if (!v1) then some false else (if (decide ((a0.length : Int) > 200)) then some true else ((quote_Plain.f k a0).bind fun v4 => ((millwrightref11_Plain.f k a0).bind fun v5 => (if (v4 == v5) then ((quote_Quote.f k a0).bind fun v7 => ((millwrightref11_Quote.f k a0).bind fun v8 => (if (v7 == v8) then ((quote_Blank.f k a1).bind fun v10 => ((millwrightref11_Blank.f k a1).bind fun v11 => some (v10 == v11))) else some false))) else some false))))))
end Go.Proofs.YtfeaegjlhpgdmaaDoor
