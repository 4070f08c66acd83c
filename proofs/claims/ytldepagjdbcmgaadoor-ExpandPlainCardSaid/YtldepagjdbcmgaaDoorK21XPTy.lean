/- A part of the proof of a given law: XPTy. Own work, printed in part by a program of mine. -/
import Derived.Test.YtldepagjdbcmgaaDoorK21AmR6
import Derived.Test.YtldepagjdbcmgaaDoorProg
namespace Go.Proofs.YtldepagjdbcmgaaDoor
open Go Go.AM
set_option linter.unusedVariables false
set_option linter.unusedSimpArgs false
set_option maxRecDepth 100000
structure T_runtime_boundsError where
  f_x : Int
  f_y : Int
  f_signed : Bool
  f_code : Int
  deriving Inhabited
structure T_runtime_errorAddressString where
  f_msg : List UInt8
  f_addr : Int
  deriving Inhabited
structure T_env_Var where
  f_Name : List UInt8
  f_Words : List (List UInt8)
  f_Level : Int
  f_Hidden : Bool
  deriving Inhabited
structure T_millwrightref14_Env where
  f_All : List T_env_Var
  deriving Inhabited
structure T_millwrightlaw14_Act where
  f_Kind : Int
  f_Var : T_env_Var
  deriving Inhabited
structure T_expand_Output where
  f_Command : List UInt8
  f_Text : List UInt8
  deriving Inhabited
structure T_lex_Piece where
  f_Kind : Int
  f_Text : List UInt8
  f_From : List UInt8
  f_To : List UInt8
  deriving Inhabited
structure T_lex_reader where
  f_s : List UInt8
  f_at : Int
  f_err : Nat
  deriving Inhabited
structure T_utf8_acceptRange where
  f_lo : Int
  f_hi : Int
  deriving Inhabited
structure T_errors_errorString where
  f_s : List UInt8
  deriving Inhabited
def UnT : Nat → Type := fun n => match n with | 0 => T_runtime_boundsError | 1 => T_runtime_errorAddressString | 2 => Unit | 3 => T_env_Var | 4 => T_millwrightref14_Env | 5 => T_millwrightlaw14_Act | 6 => T_expand_Output | 7 => T_lex_Piece | 8 => Unit | 9 => T_lex_reader | 10 => Unit | 11 => Unit | 12 => T_utf8_acceptRange | 13 => Unit | 14 => Unit | 15 => Unit | 16 => T_errors_errorString | _ + 17 => Unit
def UnB : Nat → Ty := fun n => match n with | 0 => (.pair (.int .i64) (.pair (.int .i64) (.pair .bool (.pair (.int .u8) .unit)))) | 1 => (.pair .str (.pair (.int .u64) .unit)) | 2 => .unit | 3 => (.pair .str (.pair (.list .str) (.pair (.int .i64) (.pair .bool .unit)))) | 4 => (.pair (.list (.named 3)) .unit) | 5 => (.pair (.int .i64) (.pair (.named 3) .unit)) | 6 => (.pair .str (.pair .str .unit)) | 7 => (.pair (.int .i64) (.pair .str (.pair .str (.pair .str .unit)))) | 8 => .unit | 9 => (.pair .str (.pair (.int .i64) (.pair .err .unit))) | 10 => .unit | 11 => .unit | 12 => (.pair (.int .u8) (.pair (.int .u8) .unit)) | 13 => .unit | 14 => .unit | 15 => .unit | 16 => (.pair .str .unit) | _ + 17 => .unit
def UnOut : (n : Nat) → UnT n → (UnB n).den UnT := fun n => match n with | 0 => fun x => (x.f_x, x.f_y, x.f_signed, x.f_code, ()) | 1 => fun x => (x.f_msg, x.f_addr, ()) | 2 => fun _ => () | 3 => fun x => (x.f_Name, x.f_Words, x.f_Level, x.f_Hidden, ()) | 4 => fun x => (x.f_All, ()) | 5 => fun x => (x.f_Kind, x.f_Var, ()) | 6 => fun x => (x.f_Command, x.f_Text, ()) | 7 => fun x => (x.f_Kind, x.f_Text, x.f_From, x.f_To, ()) | 8 => fun _ => () | 9 => fun x => (x.f_s, x.f_at, x.f_err, ()) | 10 => fun _ => () | 11 => fun _ => () | 12 => fun x => (x.f_lo, x.f_hi, ()) | 13 => fun _ => () | 14 => fun _ => () | 15 => fun _ => () | 16 => fun x => (x.f_s, ()) | _ + 17 => fun _ => ()
def UnInn : (n : Nat) → (UnB n).den UnT → UnT n := fun n => match n with | 0 => fun (x : Int × Int × Bool × Int × Unit) => (T_runtime_boundsError.mk x.1 x.2.1 x.2.2.1 x.2.2.2.1 : T_runtime_boundsError) | 1 => fun (x : (List UInt8) × Int × Unit) => (T_runtime_errorAddressString.mk x.1 x.2.1 : T_runtime_errorAddressString) | 2 => fun _ => () | 3 => fun (x : (List UInt8) × (List (List UInt8)) × Int × Bool × Unit) => (T_env_Var.mk x.1 x.2.1 x.2.2.1 x.2.2.2.1 : T_env_Var) | 4 => fun (x : (List T_env_Var) × Unit) => (T_millwrightref14_Env.mk x.1 : T_millwrightref14_Env) | 5 => fun (x : Int × T_env_Var × Unit) => (T_millwrightlaw14_Act.mk x.1 x.2.1 : T_millwrightlaw14_Act) | 6 => fun (x : (List UInt8) × (List UInt8) × Unit) => (T_expand_Output.mk x.1 x.2.1 : T_expand_Output) | 7 => fun (x : Int × (List UInt8) × (List UInt8) × (List UInt8) × Unit) => (T_lex_Piece.mk x.1 x.2.1 x.2.2.1 x.2.2.2.1 : T_lex_Piece) | 8 => fun _ => () | 9 => fun (x : (List UInt8) × Int × Nat × Unit) => (T_lex_reader.mk x.1 x.2.1 x.2.2.1 : T_lex_reader) | 10 => fun _ => () | 11 => fun _ => () | 12 => fun (x : Int × Int × Unit) => (T_utf8_acceptRange.mk x.1 x.2.1 : T_utf8_acceptRange) | 13 => fun _ => () | 14 => fun _ => () | 15 => fun _ => () | 16 => fun (x : (List UInt8) × Unit) => (T_errors_errorString.mk x.1 : T_errors_errorString) | _ + 17 => fun _ => ()
def UnW : Nat → Nat := fun n => match n with | 0 => 4 | 1 => 2 | 2 => 0 | 3 => 4 | 4 => 1 | 5 => 5 | 6 => 2 | 7 => 4 | 8 => 0 | 9 => 3 | 10 => 0 | 11 => 0 | 12 => 2 | 13 => 0 | 14 => 0 | 15 => 0 | 16 => 1 | _ + 17 => 0
def UnF : Nat → Bool := fun n => match n with | 0 => true | 1 => true | 2 => true | 3 => false | 4 => false | 5 => false | 6 => true | 7 => true | 8 => true | 9 => true | 10 => true | 11 => true | 12 => true | 13 => true | 14 => true | 15 => true | 16 => true | _ + 17 => true
theorem un_out_inn : ∀ n x, UnOut n (UnInn n x) = x := by
  intro n
  match n with
  | 0 => exact fun _ => rfl
  | 1 => exact fun _ => rfl
  | 2 => exact fun _ => rfl
  | 3 => exact fun _ => rfl
  | 4 => exact fun _ => rfl
  | 5 => exact fun _ => rfl
  | 6 => exact fun _ => rfl
  | 7 => exact fun _ => rfl
  | 8 => exact fun _ => rfl
  | 9 => exact fun _ => rfl
  | 10 => exact fun _ => rfl
  | 11 => exact fun _ => rfl
  | 12 => exact fun _ => rfl
  | 13 => exact fun _ => rfl
  | 14 => exact fun _ => rfl
  | 15 => exact fun _ => rfl
  | 16 => exact fun _ => rfl
  | _ + 17 => exact fun _ => rfl
theorem un_inn_out : ∀ n x, UnInn n (UnOut n x) = x := by
  intro n
  match n with
  | 0 => exact fun x => by cases x; rfl
  | 1 => exact fun x => by cases x; rfl
  | 2 => exact fun _ => rfl
  | 3 => exact fun x => by cases x; rfl
  | 4 => exact fun x => by cases x; rfl
  | 5 => exact fun x => by cases x; rfl
  | 6 => exact fun x => by cases x; rfl
  | 7 => exact fun x => by cases x; rfl
  | 8 => exact fun _ => rfl
  | 9 => exact fun x => by cases x; rfl
  | 10 => exact fun _ => rfl
  | 11 => exact fun _ => rfl
  | 12 => exact fun x => by cases x; rfl
  | 13 => exact fun _ => rfl
  | 14 => exact fun _ => rfl
  | 15 => exact fun _ => rfl
  | 16 => exact fun x => by cases x; rfl
  | _ + 17 => exact fun _ => rfl
theorem un_wd : ∀ n, (UnB n).width UnW = UnW n := by
  intro n
  match n with
  | 0 => rfl
  | 1 => rfl
  | 2 => rfl
  | 3 => rfl
  | 4 => rfl
  | 5 => rfl
  | 6 => rfl
  | 7 => rfl
  | 8 => rfl
  | 9 => rfl
  | 10 => rfl
  | 11 => rfl
  | 12 => rfl
  | 13 => rfl
  | 14 => rfl
  | 15 => rfl
  | 16 => rfl
  | _ + 17 => rfl
theorem un_fl : ∀ n, UnF n = true → (UnB n).flat UnF = true := by
  intro n
  match n with
  | 0 => exact fun h => by first | rfl | cases h
  | 1 => exact fun h => by first | rfl | cases h
  | 2 => exact fun h => by first | rfl | cases h
  | 3 => exact fun h => by first | rfl | cases h
  | 4 => exact fun h => by first | rfl | cases h
  | 5 => exact fun h => by first | rfl | cases h
  | 6 => exact fun h => by first | rfl | cases h
  | 7 => exact fun h => by first | rfl | cases h
  | 8 => exact fun h => by first | rfl | cases h
  | 9 => exact fun h => by first | rfl | cases h
  | 10 => exact fun h => by first | rfl | cases h
  | 11 => exact fun h => by first | rfl | cases h
  | 12 => exact fun h => by first | rfl | cases h
  | 13 => exact fun h => by first | rfl | cases h
  | 14 => exact fun h => by first | rfl | cases h
  | 15 => exact fun h => by first | rfl | cases h
  | 16 => exact fun h => by first | rfl | cases h
  | _ + 17 => exact fun _ => rfl
def Un : Univ where
  T := UnT
  body := UnB
  out := UnOut
  inn := UnInn
  out_inn := un_out_inn
  inn_out := un_inn_out
  wd := UnW
  wd_ok := un_wd
  fl := UnF
  fl_ok := un_fl
theorem mixed : Tryd.prog.follows .mixedOrders = true := by kernel_rfl
theorem az_40 : ∃ v cs, (Tryd.prog.info? 40).bind (·.zero) = some v ∧ v.cells.toList = cs ∧ ZU Un [.p .str ([] : List UInt8), .p (.list .str) ([] : List (List UInt8)), .p (.int .i64) (0 : Int), .p .bool false] cs := ⟨(.agg #[.string ByteArray.empty, .slice none 0 0, .int .i64 0, .bool false]), _, by kernel_rfl, rfl, (.data (fun _ _ _ => rd_str0) (.data (fun _ _ _ => .lnil _) (.data (fun _ _ _ => .int _ _) (.data (fun _ _ _ => .bool _) .nil))))⟩
theorem az_46 : ∃ v cs, (Tryd.prog.info? 46).bind (·.zero) = some v ∧ v.cells.toList = cs ∧ ZU Un [.p (.int .i64) (0 : Int), .p .str ([] : List UInt8), .p (.list .str) ([] : List (List UInt8)), .p (.int .i64) (0 : Int), .p .bool false] cs := ⟨(.agg #[.int .i64 0, .string ByteArray.empty, .slice none 0 0, .int .i64 0, .bool false]), _, by kernel_rfl, rfl, (.data (fun _ _ _ => .int _ _) (.data (fun _ _ _ => rd_str0) (.data (fun _ _ _ => .lnil _) (.data (fun _ _ _ => .int _ _) (.data (fun _ _ _ => .bool _) .nil)))))⟩
theorem az_49 : ∃ v cs, (Tryd.prog.info? 49).bind (·.zero) = some v ∧ v.cells.toList = cs ∧ ZU Un [.p .str ([] : List UInt8), .p (.list .str) ([] : List (List UInt8)), .p (.int .i64) (0 : Int), .p .bool false] cs := ⟨(.agg #[.string ByteArray.empty, .slice none 0 0, .int .i64 0, .bool false]), _, by kernel_rfl, rfl, (.data (fun _ _ _ => rd_str0) (.data (fun _ _ _ => .lnil _) (.data (fun _ _ _ => .int _ _) (.data (fun _ _ _ => .bool _) .nil))))⟩
theorem az_68 : ∃ v cs, (Tryd.prog.info? 68).bind (·.zero) = some v ∧ v.cells.toList = cs ∧ ZU Un [.p (.int .i64) (0 : Int), .p .str ([] : List UInt8), .p .str ([] : List UInt8), .p .str ([] : List UInt8)] cs := ⟨(.agg #[.int .i64 0, .string ByteArray.empty, .string ByteArray.empty, .string ByteArray.empty]), _, by kernel_rfl, rfl, (.data (fun _ _ _ => .int _ _) (.data (fun _ _ _ => rd_str0) (.data (fun _ _ _ => rd_str0) (.data (fun _ _ _ => rd_str0) .nil))))⟩
theorem ty_9 : TyOk Tryd.prog Un 9 .str := tyOk_mk (c := 1) (by kernel_rfl) rfl Tryd.underlying9 rfl
theorem fd_40_0 : FdOk Tryd.prog Un 40 0 0 9 .str := ⟨⟨_, _, Tryd.underlying40, rfl, rfl, rfl⟩, ty_9⟩
theorem ty_28 : TyOk Tryd.prog Un 28 (.list .str) := tyOk_mk (c := 1) (by kernel_rfl) rfl Tryd.underlying28 rfl
theorem fd_40_1 : FdOk Tryd.prog Un 40 1 1 28 (.list .str) := ⟨⟨_, _, Tryd.underlying40, rfl, rfl, rfl⟩, ty_28⟩
theorem ty_3 : TyOk Tryd.prog Un 3 (.int .i64) := tyOk_mk (c := 1) (by kernel_rfl) rfl Tryd.underlying3 rfl
theorem fd_40_2 : FdOk Tryd.prog Un 40 2 2 3 (.int .i64) := ⟨⟨_, _, Tryd.underlying40, rfl, rfl, rfl⟩, ty_3⟩
theorem ty_41 : TyOk Tryd.prog Un 41 (.list (.named 3)) := tyOk_mk (c := 1) (by kernel_rfl) rfl Tryd.underlying41 rfl
theorem fd_43_0 : FdOk Tryd.prog Un 43 0 0 41 (.list (.named 3)) := ⟨⟨_, _, Tryd.underlying43, rfl, rfl, rfl⟩, ty_41⟩
theorem ty_40 : TyOk Tryd.prog Un 40 (.named 3) := tyOk_mk (c := 4) (by kernel_rfl) rfl Tryd.underlying40 rfl
theorem fd_46_1 : FdOk Tryd.prog Un 46 1 1 40 (.named 3) := ⟨⟨_, _, Tryd.underlying46, rfl, rfl, rfl⟩, ty_40⟩
theorem fd_49_0 : FdOk Tryd.prog Un 49 0 0 9 .str := ⟨⟨_, _, Tryd.underlying49, rfl, rfl, rfl⟩, ty_9⟩
theorem fd_49_1 : FdOk Tryd.prog Un 49 1 1 28 (.list .str) := ⟨⟨_, _, Tryd.underlying49, rfl, rfl, rfl⟩, ty_28⟩
theorem fd_49_2 : FdOk Tryd.prog Un 49 2 2 3 (.int .i64) := ⟨⟨_, _, Tryd.underlying49, rfl, rfl, rfl⟩, ty_3⟩
theorem ty1_56 : TyOk Tryd.prog Un 56 .bool := tyOk_mk (c := 1) (by kernel_rfl) rfl Tryd.underlying56 rfl
theorem fd_58_0 : FdOk Tryd.prog Un 58 0 0 56 .bool := ⟨⟨_, _, Tryd.underlying58, rfl, rfl, rfl⟩, ty1_56⟩
theorem fd_64_0 : FdOk Tryd.prog Un 64 0 0 9 .str := ⟨⟨_, _, Tryd.underlying64, rfl, rfl, rfl⟩, ty_9⟩
theorem fd_64_1 : FdOk Tryd.prog Un 64 1 1 3 (.int .i64) := ⟨⟨_, _, Tryd.underlying64, rfl, rfl, rfl⟩, ty_3⟩
theorem ty_32 : TyOk Tryd.prog Un 32 .err := tyOk_mk (c := 1) (by kernel_rfl) rfl Tryd.underlying32 rfl
theorem fd_64_2 : FdOk Tryd.prog Un 64 2 2 32 .err := ⟨⟨_, _, Tryd.underlying64, rfl, rfl, rfl⟩, ty_32⟩
theorem fd_68_0 : FdOk Tryd.prog Un 68 0 0 3 (.int .i64) := ⟨⟨_, _, Tryd.underlying68, rfl, rfl, rfl⟩, ty_3⟩
theorem fd_68_1 : FdOk Tryd.prog Un 68 1 1 9 .str := ⟨⟨_, _, Tryd.underlying68, rfl, rfl, rfl⟩, ty_9⟩
theorem fd_68_2 : FdOk Tryd.prog Un 68 2 2 9 .str := ⟨⟨_, _, Tryd.underlying68, rfl, rfl, rfl⟩, ty_9⟩
theorem fd_68_3 : FdOk Tryd.prog Un 68 3 3 9 .str := ⟨⟨_, _, Tryd.underlying68, rfl, rfl, rfl⟩, ty_9⟩
theorem ty1_24 : TyOk Tryd.prog Un 24 .bool := tyOk_mk (c := 1) (by kernel_rfl) rfl Tryd.underlying24 rfl
theorem fd_77_0 : FdOk Tryd.prog Un 77 0 0 24 .bool := ⟨⟨_, _, Tryd.underlying77, rfl, rfl, rfl⟩, ty1_24⟩
theorem ty_51 : TyOk Tryd.prog Un 51 (.list (.named 6)) := tyOk_mk (c := 1) (by kernel_rfl) rfl Tryd.underlying51 rfl
theorem fd_77_1 : FdOk Tryd.prog Un 77 1 1 51 (.list (.named 6)) := ⟨⟨_, _, Tryd.underlying77, rfl, rfl, rfl⟩, ty_51⟩
theorem fd_104_0 : FdOk Tryd.prog Un 104 0 0 9 .str := ⟨⟨_, _, Tryd.underlying104, rfl, rfl, rfl⟩, ty_9⟩
theorem fd_104_1 : FdOk Tryd.prog Un 104 1 1 9 .str := ⟨⟨_, _, Tryd.underlying104, rfl, rfl, rfl⟩, ty_9⟩
theorem hb_4 : HasBody Tryd.prog 4 := ⟨⟨_, Tryd.func4, by kernel_rfl, rfl⟩⟩
theorem hb_5 : HasBody Tryd.prog 5 := ⟨⟨_, Tryd.func5, by kernel_rfl, rfl⟩⟩
theorem hb_6 : HasBody Tryd.prog 6 := ⟨⟨_, Tryd.func6, by kernel_rfl, rfl⟩⟩
theorem hb_7 : HasBody Tryd.prog 7 := ⟨⟨_, Tryd.func7, by kernel_rfl, rfl⟩⟩
theorem hb_8 : HasBody Tryd.prog 8 := ⟨⟨_, Tryd.func8, by kernel_rfl, rfl⟩⟩
theorem hb_9 : HasBody Tryd.prog 9 := ⟨⟨_, Tryd.func9, by kernel_rfl, rfl⟩⟩
theorem hb_10 : HasBody Tryd.prog 10 := ⟨⟨_, Tryd.func10, by kernel_rfl, rfl⟩⟩
theorem hb_11 : HasBody Tryd.prog 11 := ⟨⟨_, Tryd.func11, by kernel_rfl, rfl⟩⟩
theorem hb_12 : HasBody Tryd.prog 12 := ⟨⟨_, Tryd.func12, by kernel_rfl, rfl⟩⟩
theorem hb_13 : HasBody Tryd.prog 13 := ⟨⟨_, Tryd.func13, by kernel_rfl, rfl⟩⟩
theorem hb_14 : HasBody Tryd.prog 14 := ⟨⟨_, Tryd.func14, by kernel_rfl, rfl⟩⟩
theorem hb_15 : HasBody Tryd.prog 15 := ⟨⟨_, Tryd.func15, by kernel_rfl, rfl⟩⟩
theorem hb_16 : HasBody Tryd.prog 16 := ⟨⟨_, Tryd.func16, by kernel_rfl, rfl⟩⟩
theorem hb_17 : HasBody Tryd.prog 17 := ⟨⟨_, Tryd.func17, by kernel_rfl, rfl⟩⟩
theorem hb_18 : HasBody Tryd.prog 18 := ⟨⟨_, Tryd.func18, by kernel_rfl, rfl⟩⟩
theorem hb_19 : HasBody Tryd.prog 19 := ⟨⟨_, Tryd.func19, by kernel_rfl, rfl⟩⟩
theorem hb_20 : HasBody Tryd.prog 20 := ⟨⟨_, Tryd.func20, by kernel_rfl, rfl⟩⟩
theorem hb_21 : HasBody Tryd.prog 21 := ⟨⟨_, Tryd.func21, by kernel_rfl, rfl⟩⟩
theorem hb_22 : HasBody Tryd.prog 22 := ⟨⟨_, Tryd.func22, by kernel_rfl, rfl⟩⟩
theorem hb_23 : HasBody Tryd.prog 23 := ⟨⟨_, Tryd.func23, by kernel_rfl, rfl⟩⟩
theorem hb_24 : HasBody Tryd.prog 24 := ⟨⟨_, Tryd.func24, by kernel_rfl, rfl⟩⟩
theorem hb_25 : HasBody Tryd.prog 25 := ⟨⟨_, Tryd.func25, by kernel_rfl, rfl⟩⟩
theorem hb_26 : HasBody Tryd.prog 26 := ⟨⟨_, Tryd.func26, by kernel_rfl, rfl⟩⟩
theorem hb_27 : HasBody Tryd.prog 27 := ⟨⟨_, Tryd.func27, by kernel_rfl, rfl⟩⟩
theorem hb_28 : HasBody Tryd.prog 28 := ⟨⟨_, Tryd.func28, by kernel_rfl, rfl⟩⟩
theorem hb_29 : HasBody Tryd.prog 29 := ⟨⟨_, Tryd.func29, by kernel_rfl, rfl⟩⟩
theorem hb_30 : HasBody Tryd.prog 30 := ⟨⟨_, Tryd.func30, by kernel_rfl, rfl⟩⟩
theorem hb_31 : HasBody Tryd.prog 31 := ⟨⟨_, Tryd.func31, by kernel_rfl, rfl⟩⟩
theorem hb_32 : HasBody Tryd.prog 32 := ⟨⟨_, Tryd.func32, by kernel_rfl, rfl⟩⟩
theorem hb_33 : HasBody Tryd.prog 33 := ⟨⟨_, Tryd.func33, by kernel_rfl, rfl⟩⟩
theorem hb_34 : HasBody Tryd.prog 34 := ⟨⟨_, Tryd.func34, by kernel_rfl, rfl⟩⟩
theorem hb_35 : HasBody Tryd.prog 35 := ⟨⟨_, Tryd.func35, by kernel_rfl, rfl⟩⟩
theorem hb_36 : HasBody Tryd.prog 36 := ⟨⟨_, Tryd.func36, by kernel_rfl, rfl⟩⟩
theorem hb_37 : HasBody Tryd.prog 37 := ⟨⟨_, Tryd.func37, by kernel_rfl, rfl⟩⟩
theorem hb_38 : HasBody Tryd.prog 38 := ⟨⟨_, Tryd.func38, by kernel_rfl, rfl⟩⟩
theorem hb_39 : HasBody Tryd.prog 39 := ⟨⟨_, Tryd.func39, by kernel_rfl, rfl⟩⟩
theorem hb_41 : HasBody Tryd.prog 41 := ⟨⟨_, Tryd.func41, by kernel_rfl, rfl⟩⟩
theorem hb_42 : HasBody Tryd.prog 42 := ⟨⟨_, Tryd.func42, by kernel_rfl, rfl⟩⟩
theorem hb_43 : HasBody Tryd.prog 43 := ⟨⟨_, Tryd.func43, by kernel_rfl, rfl⟩⟩
theorem hb_44 : HasBody Tryd.prog 44 := ⟨⟨_, Tryd.func44, by kernel_rfl, rfl⟩⟩
theorem hb_45 : HasBody Tryd.prog 45 := ⟨⟨_, Tryd.func45, by kernel_rfl, rfl⟩⟩
theorem hb_46 : HasBody Tryd.prog 46 := ⟨⟨_, Tryd.func46, by kernel_rfl, rfl⟩⟩
theorem hb_47 : HasBody Tryd.prog 47 := ⟨⟨_, Tryd.func47, by kernel_rfl, rfl⟩⟩
theorem hb_48 : HasBody Tryd.prog 48 := ⟨⟨_, Tryd.func48, by kernel_rfl, rfl⟩⟩
theorem hb_49 : HasBody Tryd.prog 49 := ⟨⟨_, Tryd.func49, by kernel_rfl, rfl⟩⟩
theorem hb_50 : HasBody Tryd.prog 50 := ⟨⟨_, Tryd.func50, by kernel_rfl, rfl⟩⟩
theorem hb_51 : HasBody Tryd.prog 51 := ⟨⟨_, Tryd.func51, by kernel_rfl, rfl⟩⟩
theorem hb_54 : HasBody Tryd.prog 54 := ⟨⟨_, Tryd.func54, by kernel_rfl, rfl⟩⟩
theorem hb_55 : HasBody Tryd.prog 55 := ⟨⟨_, Tryd.func55, by kernel_rfl, rfl⟩⟩
theorem hb_56 : HasBody Tryd.prog 56 := ⟨⟨_, Tryd.func56, by kernel_rfl, rfl⟩⟩
theorem hb_57 : HasBody Tryd.prog 57 := ⟨⟨_, Tryd.func57, by kernel_rfl, rfl⟩⟩
theorem hb_58 : HasBody Tryd.prog 58 := ⟨⟨_, Tryd.func58, by kernel_rfl, rfl⟩⟩
theorem hb_65 : HasBody Tryd.prog 65 := ⟨⟨_, Tryd.func65, by kernel_rfl, rfl⟩⟩
theorem hb_66 : HasBody Tryd.prog 66 := ⟨⟨_, Tryd.func66, by kernel_rfl, rfl⟩⟩
theorem hb_67 : HasBody Tryd.prog 67 := ⟨⟨_, Tryd.func67, by kernel_rfl, rfl⟩⟩
theorem hb_68 : HasBody Tryd.prog 68 := ⟨⟨_, Tryd.func68, by kernel_rfl, rfl⟩⟩
theorem hb_69 : HasBody Tryd.prog 69 := ⟨⟨_, Tryd.func69, by kernel_rfl, rfl⟩⟩
theorem hb_70 : HasBody Tryd.prog 70 := ⟨⟨_, Tryd.func70, by kernel_rfl, rfl⟩⟩
theorem hb_77 : HasBody Tryd.prog 77 := ⟨⟨_, Tryd.func77, by kernel_rfl, rfl⟩⟩
theorem hb_78 : HasBody Tryd.prog 78 := ⟨⟨_, Tryd.func78, by kernel_rfl, rfl⟩⟩
theorem hb_79 : HasBody Tryd.prog 79 := ⟨⟨_, Tryd.func79, by kernel_rfl, rfl⟩⟩
theorem hb_85 : HasBody Tryd.prog 85 := ⟨⟨_, Tryd.func85, by kernel_rfl, rfl⟩⟩
theorem hb_86 : HasBody Tryd.prog 86 := ⟨⟨_, Tryd.func86, by kernel_rfl, rfl⟩⟩
theorem hb_87 : HasBody Tryd.prog 87 := ⟨⟨_, Tryd.func87, by kernel_rfl, rfl⟩⟩
theorem hb_88 : HasBody Tryd.prog 88 := ⟨⟨_, Tryd.func88, by kernel_rfl, rfl⟩⟩
theorem hb_89 : HasBody Tryd.prog 89 := ⟨⟨_, Tryd.func89, by kernel_rfl, rfl⟩⟩
theorem hb_91 : HasBody Tryd.prog 91 := ⟨⟨_, Tryd.func91, by kernel_rfl, rfl⟩⟩
theorem hb_92 : HasBody Tryd.prog 92 := ⟨⟨_, Tryd.func92, by kernel_rfl, rfl⟩⟩
theorem hb_93 : HasBody Tryd.prog 93 := ⟨⟨_, Tryd.func93, by kernel_rfl, rfl⟩⟩
theorem hb_94 : HasBody Tryd.prog 94 := ⟨⟨_, Tryd.func94, by kernel_rfl, rfl⟩⟩
theorem lays_40 : lays Tryd.prog 40 = some ([.string ByteArray.empty, .slice none 0 0, .int .i64 0, .bool false], (fun i => ([(0, 1), (1, 1), (2, 1), (3, 1)] : List (Nat × Nat)).toArray[i]?)) := by kernel_rfl
theorem lays_43 : lays Tryd.prog 43 = some ([.slice none 0 0], (fun i => ([(0, 1)] : List (Nat × Nat)).toArray[i]?)) := by kernel_rfl
theorem lays_46 : lays Tryd.prog 46 = some ([.int .i64 0, .string ByteArray.empty, .slice none 0 0, .int .i64 0, .bool false], (fun i => ([(0, 1), (1, 4)] : List (Nat × Nat)).toArray[i]?)) := by kernel_rfl
theorem lays_58 : lays Tryd.prog 58 = some ([.map none], (fun i => ([(0, 1)] : List (Nat × Nat)).toArray[i]?)) := by kernel_rfl
theorem lays_64 : lays Tryd.prog 64 = some ([.string ByteArray.empty, .int .i64 0, .nilIface], (fun i => ([(0, 1), (1, 1), (2, 1)] : List (Nat × Nat)).toArray[i]?)) := by kernel_rfl
theorem lays_68 : lays Tryd.prog 68 = some ([.int .i64 0, .string ByteArray.empty, .string ByteArray.empty, .string ByteArray.empty], (fun i => ([(0, 1), (1, 1), (2, 1), (3, 1)] : List (Nat × Nat)).toArray[i]?)) := by kernel_rfl
theorem lays_77 : lays Tryd.prog 77 = some ([.pointer none, .slice none 0 0], (fun i => ([(0, 1), (1, 1)] : List (Nat × Nat)).toArray[i]?)) := by kernel_rfl
theorem map_56 : MapOk Tryd.prog 56 9 40 := ⟨Tryd.underlying56, Tryd.underlying9⟩
theorem sl_28 : SlOk Tryd.prog Un 28 9 .str := ⟨Tryd.underlying28, ty_9⟩
theorem row_28 : RowOk Tryd.prog Un 28 9 .str 16 := rowOk_mk (c := 1) sl_28 (by kernel_rfl) rfl (by decide)
theorem ty_49 : TyOk Tryd.prog Un 49 (.named 3) := tyOk_mk (c := 4) (by kernel_rfl) rfl Tryd.underlying49 rfl
theorem sl_41 : SlOk Tryd.prog Un 41 49 (.named 3) := ⟨Tryd.underlying41, ty_49⟩
theorem row_41 : RowOk Tryd.prog Un 41 49 (.named 3) 56 := rowOk_mk (c := 4) sl_41 (by kernel_rfl) rfl (by decide)
theorem ty_46 : TyOk Tryd.prog Un 46 (.named 5) := tyOk_mk (c := 5) (by kernel_rfl) rfl Tryd.underlying46 rfl
theorem sl_44 : SlOk Tryd.prog Un 44 46 (.named 5) := ⟨Tryd.underlying44, ty_46⟩
theorem row_44 : RowOk Tryd.prog Un 44 46 (.named 5) 64 := rowOk_mk (c := 5) sl_44 (by kernel_rfl) rfl (by decide)
theorem ty_66 : TyOk Tryd.prog Un 66 (.list (.named 7)) := tyOk_mk (c := 1) (by kernel_rfl) rfl Tryd.underlying66 rfl
theorem sl_52 : SlOk Tryd.prog Un 52 66 (.list (.named 7)) := ⟨Tryd.underlying52, ty_66⟩
theorem row_52 : RowOk Tryd.prog Un 52 66 (.list (.named 7)) 24 := rowOk_mk (c := 1) sl_52 (by kernel_rfl) rfl (by decide)
theorem ty_68 : TyOk Tryd.prog Un 68 (.named 7) := tyOk_mk (c := 4) (by kernel_rfl) rfl Tryd.underlying68 rfl
theorem sl_66 : SlOk Tryd.prog Un 66 68 (.named 7) := ⟨Tryd.underlying66, ty_68⟩
theorem row_66 : RowOk Tryd.prog Un 66 68 (.named 7) 56 := rowOk_mk (c := 4) sl_66 (by kernel_rfl) rfl (by decide)
theorem ty_5 : TyOk Tryd.prog Un 5 (.int .u8) := tyOk_mk (c := 1) (by kernel_rfl) rfl Tryd.underlying5 rfl
theorem sl_94 : SlOk Tryd.prog Un 94 5 (.int .u8) := ⟨Tryd.underlying94, ty_5⟩
theorem row_94 : RowOk Tryd.prog Un 94 5 (.int .u8) 1 := rowOk_mk (c := 1) sl_94 (by kernel_rfl) rfl (by decide)
theorem sl_22 : SlOk Tryd.prog Un 22 40 (.named 3) := ⟨Tryd.underlying22, ty_40⟩
theorem ty_104 : TyOk Tryd.prog Un 104 (.named 6) := tyOk_mk (c := 2) (by kernel_rfl) rfl Tryd.underlying104 rfl
theorem sl_51 : SlOk Tryd.prog Un 51 104 (.named 6) := ⟨Tryd.underlying51, ty_104⟩
theorem ty_43 : TyOk Tryd.prog Un 43 (.named 4) := tyOk_mk (c := 1) (by kernel_rfl) rfl Tryd.underlying43 rfl
theorem ty_64 : TyOk Tryd.prog Un 64 (.named 9) := tyOk_mk (c := 3) (by kernel_rfl) rfl Tryd.underlying64 rfl
theorem ty2_58 : TyOk Tryd.prog Un 58 (.arr 1 .bool) := tyOk_mk (c := 1) (by kernel_rfl) rfl Tryd.underlying58 rfl
theorem ty2_77 : TyOk Tryd.prog Un 77 (.arr 2 .bool) := tyOk_mk (c := 2) (by kernel_rfl) rfl Tryd.underlying77 rfl
theorem z8_5 : ∃ i, Tryd.prog.info? 5 = some i ∧ i.zero = some (.int .u8 0) := z8_mk (by kernel_rfl)
theorem zv_40 : ZeroOk Tryd.prog Un 40 (.named 3) ((T_env_Var.mk [] [] 0 false) : T_env_Var) := zeroOk_mk (v := (.agg #[.string ByteArray.empty, .slice none 0 0, .int .i64 0, .bool false])) (by kernel_rfl) fun _ _ _ => ⟨_, (.named _ _ (.pair rd_str0 (.pair (.lnil _) (.pair (.int _ _) (.pair (.bool _) .unit))))), rfl⟩
noncomputable def TB : Tab Un where
  un := Tryd.prog.underlying
  ty := [(3, .int .i64), (5, .int .u8), (9, .str), (28, .list .str), (32, .err), (40, .named 3), (41, .list (.named 3)), (43, .named 4), (46, .named 5), (49, .named 3), (51, .list (.named 6)), (64, .named 9), (66, .list (.named 7)), (68, .named 7), (104, .named 6), (24, .bool), (56, .bool), (58, .arr 1 .bool), (77, .arr 2 .bool)]
  sl := [(22, 40, .named 3), (28, 9, .str), (41, 49, .named 3), (44, 46, .named 5), (51, 104, .named 6), (52, 66, .list (.named 7)), (66, 68, .named 7), (94, 5, .int .u8)]
  fd := [(40, 0, 0, .str), (40, 1, 1, .list .str), (40, 2, 2, .int .i64), (43, 0, 0, .list (.named 3)), (46, 1, 1, .named 3), (49, 0, 0, .str), (49, 1, 1, .list .str), (49, 2, 2, .int .i64), (58, 0, 0, .bool), (64, 0, 0, .str), (64, 1, 1, .int .i64), (64, 2, 2, .err), (68, 0, 0, .int .i64), (68, 1, 1, .str), (68, 2, 2, .str), (68, 3, 3, .str), (77, 0, 0, .bool), (77, 1, 1, .list (.named 6)), (104, 0, 0, .str), (104, 1, 1, .str)]
  ro := [(28, 9, .str, 16), (41, 49, .named 3, 56), (44, 46, .named 5, 64), (52, 66, .list (.named 7), 24), (66, 68, .named 7, 56), (94, 5, .int .u8, 1)]
  mp := [(56, 9, 40)]
  zd := [(40, .p (.named 3) ((T_env_Var.mk [] [] 0 false) : T_env_Var))]
  az := [(40, [.p .str ([] : List UInt8), .p (.list .str) ([] : List (List UInt8)), .p (.int .i64) (0 : Int), .p .bool false]), (46, [.p (.int .i64) (0 : Int), .p .str ([] : List UInt8), .p (.list .str) ([] : List (List UInt8)), .p (.int .i64) (0 : Int), .p .bool false]), (49, [.p .str ([] : List UInt8), .p (.list .str) ([] : List (List UInt8)), .p (.int .i64) (0 : Int), .p .bool false]), (68, [.p (.int .i64) (0 : Int), .p .str ([] : List UInt8), .p .str ([] : List UInt8), .p .str ([] : List UInt8)])]
  bz := [(40, [.p .str ([] : List UInt8), .p (.list .str) ([] : List (List UInt8)), .p (.int .i64) (0 : Int), .p .bool false], [(0, 1, .str), (1, 1, .list .str), (2, 1, .int .i64), (3, 1, .bool)]), (43, [.p (.list (.named 3)) ([] : List T_env_Var)], [(0, 1, .list (.named 3))]), (46, [.p (.int .i64) (0 : Int), .p .str ([] : List UInt8), .p (.list .str) ([] : List (List UInt8)), .p (.int .i64) (0 : Int), .p .bool false], [(0, 1, .int .i64), (1, 4, .named 3)]), (58, [.lit (.map none)], [(0, 1, .bool)]), (64, [.p .str ([] : List UInt8), .p (.int .i64) (0 : Int), .p .err (0 : Nat)], [(0, 1, .str), (1, 1, .int .i64), (2, 1, .err)]), (68, [.p (.int .i64) (0 : Int), .p .str ([] : List UInt8), .p .str ([] : List UInt8), .p .str ([] : List UInt8)], [(0, 1, .int .i64), (1, 1, .str), (2, 1, .str), (3, 1, .str)]), (77, [.lit (.pointer none), .p (.list (.named 6)) ([] : List T_expand_Output)], [(0, 1, .bool), (1, 1, .list (.named 6))])]
  hb := [4, 5, 6, 7, 8, 9, 10, 11, 12, 13, 14, 15, 16, 17, 18, 19, 20, 21, 22, 23, 24, 25, 26, 27, 28, 29, 30, 31, 32, 33, 34, 35, 36, 37, 38, 39, 41, 42, 43, 44, 45, 46, 47, 48, 49, 50, 51, 54, 55, 56, 57, 58, 65, 66, 67, 68, 69, 70, 77, 78, 79, 85, 86, 87, 88, 89, 91, 92, 93, 94]
theorem TBok : TbOk Tryd.prog Un TB where
  un := fun _ _ h => h
  ty := (.c ty_3 (.c ty_5 (.c ty_9 (.c ty_28 (.c ty_32 (.c ty_40 (.c ty_41 (.c ty_43 (.c ty_46 (.c ty_49 (.c ty_51 (.c ty_64 (.c ty_66 (.c ty_68 (.c ty_104 (.c ty1_24 (.c ty1_56 (.c ty2_58 (.c ty2_77 AllP.z)))))))))))))))))))
  sl := (.c sl_22 (.c sl_28 (.c sl_41 (.c sl_44 (.c sl_51 (.c sl_52 (.c sl_66 (.c sl_94 AllP.z))))))))
  fd := (.c ⟨_, fd_40_0⟩ (.c ⟨_, fd_40_1⟩ (.c ⟨_, fd_40_2⟩ (.c ⟨_, fd_43_0⟩ (.c ⟨_, fd_46_1⟩ (.c ⟨_, fd_49_0⟩ (.c ⟨_, fd_49_1⟩ (.c ⟨_, fd_49_2⟩ (.c ⟨_, fd_58_0⟩ (.c ⟨_, fd_64_0⟩ (.c ⟨_, fd_64_1⟩ (.c ⟨_, fd_64_2⟩ (.c ⟨_, fd_68_0⟩ (.c ⟨_, fd_68_1⟩ (.c ⟨_, fd_68_2⟩ (.c ⟨_, fd_68_3⟩ (.c ⟨_, fd_77_0⟩ (.c ⟨_, fd_77_1⟩ (.c ⟨_, fd_104_0⟩ (.c ⟨_, fd_104_1⟩ AllP.z))))))))))))))))))))
  ro := (.c row_28 (.c row_41 (.c row_44 (.c row_52 (.c row_66 (.c row_94 AllP.z))))))
  mp := (.c map_56 AllP.z)
  zd := (.c zv_40 AllP.z)
  az := (.c az_40 (.c az_46 (.c az_49 (.c az_68 AllP.z))))
  bz := (.c ⟨_, _, lays_40, (.data (fun _ _ _ => rd_str0) (.data (fun _ _ _ => .lnil _) (.data (fun _ _ _ => .int _ _) (.data (fun _ _ _ => .bool _) .nil)))), by kernel_rfl⟩ (.c ⟨_, _, lays_43, (.data (fun _ _ _ => .lnil _) .nil), by kernel_rfl⟩ (.c ⟨_, _, lays_46, (.data (fun _ _ _ => .int _ _) (.data (fun _ _ _ => rd_str0) (.data (fun _ _ _ => .lnil _) (.data (fun _ _ _ => .int _ _) (.data (fun _ _ _ => .bool _) .nil))))), by kernel_rfl⟩ (.c ⟨_, _, lays_58, (.lit rfl .nil), by kernel_rfl⟩ (.c ⟨_, _, lays_64, (.data (fun _ _ _ => rd_str0) (.data (fun _ _ _ => .int _ _) (.data (fun _ _ _ => .err0) .nil))), by kernel_rfl⟩ (.c ⟨_, _, lays_68, (.data (fun _ _ _ => .int _ _) (.data (fun _ _ _ => rd_str0) (.data (fun _ _ _ => rd_str0) (.data (fun _ _ _ => rd_str0) .nil)))), by kernel_rfl⟩ (.c ⟨_, _, lays_77, (.lit rfl (.data (fun _ _ _ => .lnil _) .nil)), by kernel_rfl⟩ AllP.z)))))))
  hb := (.c hb_4 (.c hb_5 (.c hb_6 (.c hb_7 (.c hb_8 (.c hb_9 (.c hb_10 (.c hb_11 (.c hb_12 (.c hb_13 (.c hb_14 (.c hb_15 (.c hb_16 (.c hb_17 (.c hb_18 (.c hb_19 (.c hb_20 (.c hb_21 (.c hb_22 (.c hb_23 (.c hb_24 (.c hb_25 (.c hb_26 (.c hb_27 (.c hb_28 (.c hb_29 (.c hb_30 (.c hb_31 (.c hb_32 (.c hb_33 (.c hb_34 (.c hb_35 (.c hb_36 (.c hb_37 (.c hb_38 (.c hb_39 (.c hb_41 (.c hb_42 (.c hb_43 (.c hb_44 (.c hb_45 (.c hb_46 (.c hb_47 (.c hb_48 (.c hb_49 (.c hb_50 (.c hb_51 (.c hb_54 (.c hb_55 (.c hb_56 (.c hb_57 (.c hb_58 (.c hb_65 (.c hb_66 (.c hb_67 (.c hb_68 (.c hb_69 (.c hb_70 (.c hb_77 (.c hb_78 (.c hb_79 (.c hb_85 (.c hb_86 (.c hb_87 (.c hb_88 (.c hb_89 (.c hb_91 (.c hb_92 (.c hb_93 (.c hb_94 AllP.z))))))))))))))))))))))))))))))))))))))))))))))))))))))))))))))))))))))
theorem rSC {O : Out} {B : Base} {id N : Nat} {ops : Array Oper} {st : St Un} {Q : PostQ Un} (x : RX Un O Tryd.prog ops) (ts ns : List Nat) (hN : B.n = N) (h1 : okS TB x st N = true) (h2 : obL TB x st = obR TB x st)  {st2 : St Un} (hcv : Conv Un O (nxS TB x st ts ns) st2) (hQ : Q .normal st2) : WpC Un O Tryd.prog B (.region id ops false) st Q := WpC.rS TBok x ts ns hN h1 h2 rfl hcv hQ
theorem rS {O : Out} {B : Base} {id N : Nat} {ops : Array Oper} {st : St Un} {Q : PostQ Un} (x : RX Un O Tryd.prog ops) (ts ns : List Nat) (hN : B.n = N) (h1 : okS TB x st N = true) (h2 : obL TB x st = obR TB x st)  (hQ : Q .normal (nxS TB x st ts ns)) : WpC Un O Tryd.prog B (.region id ops false) st Q := WpC.rS TBok x ts ns hN h1 h2 rfl (Conv.refl _) hQ
theorem rA {O : Out} {B : Base} {id N : Nat} {ops : Array Oper} {st : St Un} {Q : PostQ Un} (x : RX Un O Tryd.prog ops) (ts ns : List Nat) (hN : B.n = N) (h1 : okS TB x st N = true) (h2 : obL TB x st = obR TB x st) (h4 : raS TB x st = true)  (hQ : Q .normal (nxS TB x st ts ns)) : WpC Un O Tryd.prog B (.region id ops true) st Q := WpC.rA TBok mixed x ts ns hN h1 h2 h4 rfl (Conv.refl _) hQ
theorem cS {O : Out} {st : St Un} (l : List (CV Un O)) (h1 : cvOk l st = true) (h2 : cvL l st = cvR l st) : Conv Un O st (cvN l st) := Conv.S h1 h2
theorem tS : type_of% (@WpC.tS Un) := @WpC.tS Un
theorem eR {O : Out} {fn : Func} {c : CSpec Un} {st : St Un} (h1 : (resD TB st fn.results.toList).map resOf = some c.r) (h2 : (c.bs'.map fun x => lookA st.hp x.1) = c.bs'.map fun x => some x.2) : Go.AM.Ends Un O Tryd.prog fn c .ret st := ends_retS TBok h1 h2
theorem eN {O : Out} {fn : Func} {c : CSpec Un} {st : St Un} (h1 : (resD TB st fn.results.toList).map resOf = some c.r) (h2 : (c.bs'.map fun x => lookA st.hp x.1) = c.bs'.map fun x => some x.2) : Go.AM.Ends Un O Tryd.prog fn c .normal st := ends_normalS TBok h1 h2

theorem cvR : type_of% (@Conv.refl Un) := @Conv.refl Un
theorem cvK : type_of% (@Conv.keep Un) := @Conv.keep Un
theorem sqJ : type_of% (@WpC.seqJ Un) := @WpC.seqJ Un
theorem tnU : type_of% (@thenQ_normal Un) := @thenQ_normal Un
end Go.Proofs.YtldepagjdbcmgaaDoor
