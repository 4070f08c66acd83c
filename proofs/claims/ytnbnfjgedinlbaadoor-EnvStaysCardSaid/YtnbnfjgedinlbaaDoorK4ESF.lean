/- A part of the proof of a given law: ESF. Own work, printed in part by a program of mine. -/
import Derived.Test.YtnbnfjgedinlbaaDoorK4ESTy
import Derived.Test.YtnbnfjgedinlbaaDoorK4PE
namespace Go.Proofs.YtnbnfjgedinlbaaDoor
open Go Go.AM
set_option linter.unusedVariables false
set_option linter.unusedSimpArgs false
set_option maxRecDepth 100000
def env_New.f (k : Nat) : Option (List ((List UInt8) × T_env_Var)) := some []
def lex_letter.f (k : Nat) (a0 : Int) : Option Bool := (if (decide (a0 ≥ 97)) then (if (decide (a0 ≤ 122)) then some true else (if (decide (a0 ≥ 65)) then (if (decide (a0 ≤ 90)) then some true else (if (decide (a0 ≥ 48)) then (if (decide (a0 ≤ 57)) then some true else some (a0 == 95)) else some (a0 == 95))) else (if (decide (a0 ≥ 48)) then (if (decide (a0 ≤ 57)) then some true else some (a0 == 95)) else some (a0 == 95)))) else (if (decide (a0 ≥ 65)) then (if (decide (a0 ≤ 90)) then some true else (if (decide (a0 ≥ 48)) then (if (decide (a0 ≤ 57)) then some true else some (a0 == 95)) else some (a0 == 95))) else (if (decide (a0 ≥ 48)) then (if (decide (a0 ≤ 57)) then some true else some (a0 == 95)) else some (a0 == 95))))
def lex_run_m0.j2 (k : Nat) (v1 : Int) : Option Int := some v1
def lex_run_m0.j8 (k : Nat) (rec : Int → Option Int) (a0 : List UInt8) (a1 : Int) (v3 : Int) : Option Int := rec (IntKind.i64.wrap (v3 + 1))
def lex_run_m0.j11 (k : Nat) (rec : Int → Option Int) (a0 : List UInt8) (a1 : Int) (v3 : Int) (v9 : Bool) : Option Int := (if v9 then lex_run_m0.j8 k rec a0 a1 v3 else some v3)
def lex_run_m0.l4 (k : Nat) (a0 : List UInt8) (a1 : Int) : Nat → Int → Option Int
  | 0, _ => none
  | n + 1, v3 => (if (decide ((IntKind.i64.wrap (a1 + v3)) < (a0.length : Int))) then ((idx a0 (IntKind.i64.wrap (a1 + v3))).bind fun v13 => ((lex_letter.f k (v13.toNat : Int)).bind fun v14 => lex_run_m0.j11 k (lex_run_m0.l4 k a0 a1 n) a0 a1 v3 v14)) else lex_run_m0.j11 k (lex_run_m0.l4 k a0 a1 n) a0 a1 v3 false)
def lex_run_m0.f (k : Nat) (a0 : List UInt8) (a1 : Int) : Option Int := ((lex_run_m0.l4 k a0 a1 k 0).bind fun o6 => lex_run_m0.j2 k o6)
def lex_Name.f (k : Nat) (a0 : List UInt8) : Option Bool := (if (!(a0 == ([] : List UInt8))) then (if (decide ((a0.length : Int) ≤ 12)) then ((lex_run_m0.f k a0 0).bind fun v3 => some (v3 == (a0.length : Int))) else some false) else some false)
def env_Check_1.f (k : Nat) (a0 : List UInt8) : Option Bool := some (decide ((a0.length : Int) > 120))
def slices_IndexFunc_string_string_m0.j1 (k : Nat) : Option Int := some (-1)
def slices_IndexFunc_string_string_m0.l3 (k : Nat) (a0 : List (List UInt8)) : Nat → Int → Option (Sum Unit Int)
  | 0, _ => none
  | n + 1, v2 => (if (decide (v2 < (a0.length : Int))) then ((idx a0 v2).bind fun v7 => ((env_Check_1.f k v7).bind fun v8 => (if v8 then some (Sum.inr v2) else (slices_IndexFunc_string_string_m0.l3 k a0 n) (IntKind.i64.wrap (v2 + 1))))) else some (Sum.inl ()))
def slices_IndexFunc_string_string_m0.f (k : Nat) (a0 : List (List UInt8)) : Option Int := ((slices_IndexFunc_string_string_m0.l3 k a0 k 0).bind fun o4 => match o4 with | Sum.inl u10 => slices_IndexFunc_string_string_m0.j1 k | Sum.inr u11 => some u11)
def slices_ContainsFunc_string_string_m0.f (k : Nat) (a0 : List (List UInt8)) : Option Bool := ((slices_IndexFunc_string_string_m0.f k a0).bind fun v1 => some (decide (v1 ≥ 0)))
def env_Check.j1 (k : Nat) : Option Nat := some 0
def env_Check.j9 (k : Nat) (a0 : T_env_Var) (v4 : Bool) : Option Nat := (if v4 then some 1 else (if (decide ((a0.f_Words.length : Int) > 40)) then some 10 else ((slices_ContainsFunc_string_string_m0.f k a0.f_Words).bind fun v7 => (if v7 then some 2 else env_Check.j1 k))))
def env_Check.f (k : Nat) (a0 : T_env_Var) : Option Nat := ((lex_Name.f k a0.f_Name).bind fun v2 => (if (!v2) then some 4 else (if (decide (a0.f_Level < 0)) then env_Check.j9 k a0 true else env_Check.j9 k a0 (decide (a0.f_Level > 2)))))
def env_Var_apart.f (k : Nat) (a0 : T_env_Var) : Option T_env_Var := ((pCloneS.f k a0.f_Words).bind fun v1 => some (T_env_Var.mk a0.f_Name v1 a0.f_Level a0.f_Hidden))
def env_Env_Set_m0.j4 (k : Nat) (a0 : List ((List UInt8) × T_env_Var)) (a1 : T_env_Var) : Option (Nat × (List ((List UInt8) × T_env_Var))) := ((env_Var_apart.f k (T_env_Var.mk a1.f_Name a1.f_Words a1.f_Level a1.f_Hidden)).bind fun v3 => some (0, (mput a1.f_Name v3 a0)))
def env_Env_Set_m0.j9 (k : Nat) (a0 : List ((List UInt8) × T_env_Var)) (a1 : T_env_Var) (v7 : Bool) : Option (Nat × (List ((List UInt8) × T_env_Var))) := (if v7 then some (10, a0) else env_Env_Set_m0.j4 k a0 a1)
def env_Env_Set_m0.j11 (k : Nat) (a0 : List ((List UInt8) × T_env_Var)) (a1 : T_env_Var) (v5 : Bool) : Option (Nat × (List ((List UInt8) × T_env_Var))) := (if v5 then some (0, a0) else (if (!((mget a1.f_Name a0).isSome)) then env_Env_Set_m0.j9 k a0 a1 (decide ((a0.length : Int) ≥ 24)) else env_Env_Set_m0.j9 k a0 a1 false))
def env_Env_Set_m0.f (k : Nat) (a0 : List ((List UInt8) × T_env_Var)) (a1 : T_env_Var) : Option (Nat × (List ((List UInt8) × T_env_Var))) := ((env_Check.f k (T_env_Var.mk a1.f_Name a1.f_Words a1.f_Level a1.f_Hidden)).bind fun v1 => (if (!(v1 == 0)) then some (v1, a0) else (if (mget a1.f_Name a0).isSome then env_Env_Set_m0.j11 k a0 a1 (decide (((mget a1.f_Name a0).getD (T_env_Var.mk [] [] 0 false)).f_Level > a1.f_Level)) else env_Env_Set_m0.j11 k a0 a1 false)))
def env_Env_Find_m0.f (k : Nat) (a0 : List ((List UInt8) × T_env_Var)) (a1 : List UInt8) : Option (T_env_Var × Bool) := ((env_Var_apart.f k (T_env_Var.mk (((mget a1 a0).getD (T_env_Var.mk [] [] 0 false)).f_Name) (((mget a1 a0).getD (T_env_Var.mk [] [] 0 false)).f_Words) (((mget a1 a0).getD (T_env_Var.mk [] [] 0 false)).f_Level) (((mget a1 a0).getD (T_env_Var.mk [] [] 0 false)).f_Hidden))).bind fun v1 => some ((T_env_Var.mk v1.f_Name v1.f_Words v1.f_Level v1.f_Hidden), (mget a1 a0).isSome))
def env_Env_Get_m0.f (k : Nat) (a0 : List ((List UInt8) × T_env_Var)) (a1 : List UInt8) : Option (List (List UInt8)) := ((env_Env_Find_m0.f k a0 a1).bind fun v1 => some v1.1.f_Words)
def millwrightlaw14_alive.j6 (k : Nat) (v2 : List ((List UInt8) × T_env_Var)) : Option Bool := ((env_Env_Get_m0.f k v2 ([120] : List UInt8)).bind fun v3 => (if ((v3.length : Int) == 1) then ((idx v3 0).bind fun v5 => some (v5 == ([97] : List UInt8))) else some false))
def millwrightlaw14_alive.j10 (k : Nat) (v7 : List ((List UInt8) × T_env_Var)) (v8 : Bool) : Option Bool := (if v8 then some false else millwrightlaw14_alive.j6 k v7)
def millwrightlaw14_alive.f (k : Nat) : Option Bool := ((env_New.f k).bind fun v1 => ((env_Env_Set_m0.f k v1 (T_env_Var.mk ([120] : List UInt8) [([97] : List UInt8)] 2 false)).bind fun v11 => (if (!(v11.1 == 0)) then millwrightlaw14_alive.j10 k v11.2 true else ((env_Env_Set_m0.f k v11.2 (T_env_Var.mk ([120] : List UInt8) [([98] : List UInt8)] 1 false)).bind fun v13 => millwrightlaw14_alive.j10 k v13.2 (!(v13.1 == 0))))))
def millwrightnum_Long.j2 (k : Nat) : Option Bool := some false
def millwrightnum_Long.l4 (k : Nat) (a0 : List (List UInt8)) (a2 : Int) : Nat → Int → Option (Sum Unit Bool)
  | 0, _ => none
  | n + 1, v3 => (if (decide (v3 < (a0.length : Int))) then ((idx a0 v3).bind fun v8 => (if (decide ((v8.length : Int) > a2)) then some (Sum.inr true) else (millwrightnum_Long.l4 k a0 a2 n) (IntKind.i64.wrap (v3 + 1)))) else some (Sum.inl ()))
def millwrightnum_Long.f (k : Nat) (a0 : List (List UInt8)) (a1 : Int) (a2 : Int) : Option Bool := (if (decide ((a0.length : Int) > a1)) then some true else ((millwrightnum_Long.l4 k a0 a2 k 0).bind fun o5 => match o5 with | Sum.inl u10 => millwrightnum_Long.j2 k | Sum.inr u11 => some u11))
def millwrightlaw14_Long.j2 (k : Nat) : Option Bool := some false
def millwrightlaw14_Long.j8 (k : Nat) (rec : Int → Option (Sum Unit Bool)) (a0 : List T_millwrightlaw14_Act) (v3 : Int) : Option (Sum Unit Bool) := rec (IntKind.i64.wrap (v3 + 1))
def millwrightlaw14_Long.j12 (k : Nat) (rec : Int → Option (Sum Unit Bool)) (a0 : List T_millwrightlaw14_Act) (v3 : Int) (v10 : Bool) : Option (Sum Unit Bool) := (if v10 then some (Sum.inr true) else millwrightlaw14_Long.j8 k rec a0 v3)
def millwrightlaw14_Long.l4 (k : Nat) (a0 : List T_millwrightlaw14_Act) : Nat → Int → Option (Sum Unit Bool)
  | 0, _ => none
  | n + 1, v3 => (if (decide (v3 < (a0.length : Int))) then ((idx a0 v3).bind fun v9 => (if (decide ((v9.f_Var.f_Name.length : Int) > 60)) then millwrightlaw14_Long.j12 k (millwrightlaw14_Long.l4 k a0 n) a0 v3 true else ((millwrightnum_Long.f k v9.f_Var.f_Words 60 200).bind fun v14 => millwrightlaw14_Long.j12 k (millwrightlaw14_Long.l4 k a0 n) a0 v3 v14))) else some (Sum.inl ()))
def millwrightlaw14_Long.f (k : Nat) (a0 : List T_millwrightlaw14_Act) (a1 : Int) : Option Bool := (if (decide ((a0.length : Int) > a1)) then some true else ((millwrightlaw14_Long.l4 k a0 k 0).bind fun o5 => match o5 with | Sum.inl u15 => millwrightlaw14_Long.j2 k | Sum.inr u16 => some u16))
def millwrightnum_SameTexts.j2 (k : Nat) : Option Bool := some true
def millwrightnum_SameTexts.l4 (k : Nat) (a0 : List (List UInt8)) (a1 : List (List UInt8)) : Nat → Int → Option (Sum Unit Bool)
  | 0, _ => none
  | n + 1, v3 => (if (decide (v3 < (a0.length : Int))) then ((idx a0 v3).bind fun v8 => ((idx a1 v3).bind fun v9 => (if (!(v8 == v9)) then some (Sum.inr false) else (millwrightnum_SameTexts.l4 k a0 a1 n) (IntKind.i64.wrap (v3 + 1))))) else some (Sum.inl ()))
def millwrightnum_SameTexts.f (k : Nat) (a0 : List (List UInt8)) (a1 : List (List UInt8)) : Option Bool := (if ((a0.length : Int) != (a1.length : Int)) then some false else ((millwrightnum_SameTexts.l4 k a0 a1 k 0).bind fun o5 => match o5 with | Sum.inl u11 => millwrightnum_SameTexts.j2 k | Sum.inr u12 => some u12))
def millwrightref14_Same.f (k : Nat) (a0 : T_env_Var) (a1 : T_env_Var) : Option Bool := (if (a0.f_Name == a1.f_Name) then (if (a0.f_Level == a1.f_Level) then (if (a0.f_Hidden == a1.f_Hidden) then ((millwrightnum_SameTexts.f k a0.f_Words a1.f_Words).bind fun v4 => some v4) else some false) else some false) else some false)
def millwrightlaw14_EnvStays.j7 (k : Nat) : Option Bool := some true
def millwrightlaw14_EnvStays.j15 (k : Nat) (rec : (List ((List UInt8) × T_env_Var)) → Int → Option (Sum Unit Bool)) (a0 : T_env_Var) (a1 : List T_millwrightlaw14_Act) (v9 : Int) (v14 : List ((List UInt8) × T_env_Var)) : Option (Sum Unit Bool) := rec v14 (IntKind.i64.wrap (v9 + 1))
def millwrightlaw14_EnvStays.j21 (k : Nat) (rec : (List ((List UInt8) × T_env_Var)) → Int → Option (Sum Unit Bool)) (a0 : T_env_Var) (a1 : List T_millwrightlaw14_Act) (v9 : Int) (v17 : List ((List UInt8) × T_env_Var)) (v19 : Bool) : Option (Sum Unit Bool) := (if v19 then some (Sum.inr false) else millwrightlaw14_EnvStays.j15 k rec a0 a1 v9 v17)
def millwrightlaw14_EnvStays.j24 (k : Nat) (rec : (List ((List UInt8) × T_env_Var)) → Int → Option (Sum Unit Bool)) (a0 : T_env_Var) (a1 : List T_millwrightlaw14_Act) (v9 : Int) (v17 : List ((List UInt8) × T_env_Var)) : Option (Sum Unit Bool) := ((env_Env_Find_m0.f k v17 a0.f_Name).bind fun v18 => (if (!v18.2) then millwrightlaw14_EnvStays.j21 k rec a0 a1 v9 v17 true else ((millwrightref14_Same.f k (T_env_Var.mk v18.1.f_Name v18.1.f_Words v18.1.f_Level v18.1.f_Hidden) (T_env_Var.mk a0.f_Name a0.f_Words 2 a0.f_Hidden)).bind fun v23 => millwrightlaw14_EnvStays.j21 k rec a0 a1 v9 v17 (!v23))))
def millwrightlaw14_EnvStays.l10 (k : Nat) (a0 : T_env_Var) (a1 : List T_millwrightlaw14_Act) : Nat → (List ((List UInt8) × T_env_Var)) → Int → Option (Sum Unit Bool)
  | 0, _, _ => none
  | n + 1, v8, v9 => (if (decide (v9 < (a1.length : Int))) then ((idx a1 v9).bind fun v16 => (if (decide (v16.f_Var.f_Level < 2)) then ((env_Env_Set_m0.f k v8 (T_env_Var.mk v16.f_Var.f_Name v16.f_Var.f_Words v16.f_Var.f_Level v16.f_Var.f_Hidden)).bind fun v26 => millwrightlaw14_EnvStays.j24 k (millwrightlaw14_EnvStays.l10 k a0 a1 n) a0 a1 v9 v26.2) else millwrightlaw14_EnvStays.j24 k (millwrightlaw14_EnvStays.l10 k a0 a1 n) a0 a1 v9 v8)) else some (Sum.inl ()))
def millwrightlaw14_EnvStays.j29 (k : Nat) (a0 : T_env_Var) (a1 : List T_millwrightlaw14_Act) : Option Bool := ((env_New.f k).bind fun v3 => ((env_Env_Set_m0.f k v3 (T_env_Var.mk a0.f_Name a0.f_Words 2 a0.f_Hidden)).bind fun v4 => (if (!(v4.1 == 0)) then ((env_Check.f k (T_env_Var.mk a0.f_Name a0.f_Words 2 a0.f_Hidden)).bind fun v6 => some (!(v6 == 0))) else ((millwrightlaw14_EnvStays.l10 k a0 a1 k v4.2 0).bind fun o11 => match o11 with | Sum.inl u27 => millwrightlaw14_EnvStays.j7 k | Sum.inr u28 => some u28))))
def millwrightlaw14_EnvStays.j32 (k : Nat) (a0 : T_env_Var) (a1 : List T_millwrightlaw14_Act) (v30 : Bool) : Option Bool := (if v30 then some true else millwrightlaw14_EnvStays.j29 k a0 a1)
def millwrightlaw14_EnvStays.f (k : Nat) (a0 : T_env_Var) (a1 : List T_millwrightlaw14_Act) : Option Bool := ((millwrightlaw14_alive.f k).bind fun v1 => (if (!v1) then some false else ((millwrightlaw14_Long.f k a1 60).bind fun v33 => (if v33 then millwrightlaw14_EnvStays.j32 k a0 a1 true else ((millwrightlaw14_Long.f k [(T_millwrightlaw14_Act.mk 0 (T_env_Var.mk a0.f_Name a0.f_Words a0.f_Level a0.f_Hidden))] 1).bind fun v35 => millwrightlaw14_EnvStays.j32 k a0 a1 v35)))))
end Go.Proofs.YtnbnfjgedinlbaaDoor
