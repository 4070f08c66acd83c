/- A part of the proof of a given law: XWTy. Own work, printed in part by a program of mine. -/
import Derived.Test.YtldepagjdbcmgaaGreatDoorK23AmR6
import Derived.Test.YtldepagjdbcmgaaGreatDoorProg
namespace Go.Proofs.YtldepagjdbcmgaaGreatDoor
open Go Go.AM
set_option linter.unusedVariables false
set_option linter.unusedSimpArgs false
set_option maxRecDepth 100000
structure T_runtime_boundsError where
  f_x : Int
  f_y : Int
  f_signed : Bool
  f_code : Int
  deriving Inhabited
structure T_runtime_errorAddressString where
  f_msg : List UInt8
  f_addr : Int
  deriving Inhabited
structure T_env_Var where
  f_Name : List UInt8
  f_Words : List (List UInt8)
  f_Level : Int
  f_Hidden : Bool
  deriving Inhabited
structure T_expand_Output where
  f_Command : List UInt8
  f_Text : List UInt8
  deriving Inhabited
structure T_lex_Piece where
  f_Kind : Int
  f_Text : List UInt8
  f_From : List UInt8
  f_To : List UInt8
  deriving Inhabited
structure T_millwrightref14_Env where
  f_All : List T_env_Var
  deriving Inhabited
structure T_millwrightlaw14_Act where
  f_Kind : Int
  f_Var : T_env_Var
  deriving Inhabited
structure T_attr_Attr where
  f_Flags : Int
  f_Prog : List UInt8
  deriving Inhabited
structure T_load_Rule where
  f_Targets : List (List UInt8)
  f_Prereqs : List (List UInt8)
  f_Attr : T_attr_Attr
  f_Recipe : List UInt8
  f_File : List UInt8
  f_Line : Int
  deriving Inhabited
structure T_inst_Inst where
  f_Rule : Int
  f_Stem : List UInt8
  f_Subs : List (List UInt8)
  f_Targets : List (List UInt8)
  f_Prereqs : List (List UInt8)
  deriving Inhabited
structure T_lex_reader where
  f_s : List UInt8
  f_at : Int
  f_err : Nat
  deriving Inhabited
structure T_table_Table where
  f_rules : List T_load_Rule
  f_kinds : List Int
  deriving Inhabited
structure T_load_Fault where
  f_File : List UInt8
  f_Line : Int
  f_Err : Nat
  deriving Inhabited
structure T_prog_Instr where
  f_Op : Int
  f_X : Int
  f_Y : Int
  f_Set : List Int
  deriving Inhabited
inductive T_rex_Node where
  | mk (f_Kind : Int) (f_Index : Int) (f_Set : List Int) (f_Kids : List T_rex_Node)
def T_rex_Node.f_Kind : T_rex_Node → Int | .mk x0 _ _ _ => x0
def T_rex_Node.f_Index : T_rex_Node → Int | .mk _ x1 _ _ => x1
def T_rex_Node.f_Set : T_rex_Node → List Int | .mk _ _ x2 _ => x2
def T_rex_Node.f_Kids : T_rex_Node → List T_rex_Node | .mk _ _ _ x3 => x3
structure T_rex_parser where
  f_s : List UInt8
  f_at : Int
  f_groups : Int
  f_bad : Bool
  deriving Inhabited
structure T_prog_writer where
  f_code : List T_prog_Instr
  deriving Inhabited
structure T_pike_thread where
  f_at : Int
  f_kept : List Int
  deriving Inhabited
structure T_utf8_acceptRange where
  f_lo : Int
  f_hi : Int
  deriving Inhabited
structure T_reflectlite_ValueError where
  f_Method : List UInt8
  f_Kind : Int
  deriving Inhabited
structure T_errors_errorString where
  f_s : List UInt8
  deriving Inhabited
structure T_abi_UncommonType where
  f_PkgPath : Int
  f_Mcount : Int
  f_Xcount : Int
  f_Moff : Int
  f_blank4 : Int
  deriving Inhabited
structure T_abi_Method where
  f_Name : Int
  f_Mtyp : Int
  f_Ifn : Int
  f_Tfn : Int
  deriving Inhabited
def UnT : Nat → Type := fun n => match n with | 0 => T_runtime_boundsError | 1 => T_runtime_errorAddressString | 2 => Unit | 3 => T_env_Var | 4 => T_expand_Output | 5 => T_lex_Piece | 6 => T_millwrightref14_Env | 7 => T_millwrightlaw14_Act | 8 => T_attr_Attr | 9 => T_load_Rule | 10 => T_inst_Inst | 11 => Unit | 12 => Unit | 13 => T_lex_reader | 14 => T_table_Table | 15 => T_load_Fault | 16 => Unit | 17 => T_prog_Instr | 18 => T_rex_Node | 19 => Unit | 20 => T_rex_parser | 21 => T_prog_writer | 22 => T_pike_thread | 23 => Unit | 24 => T_utf8_acceptRange | 25 => Unit | 26 => Unit | 27 => Unit | 28 => T_reflectlite_ValueError | 29 => T_errors_errorString | 30 => T_abi_UncommonType | 31 => T_abi_Method | _ + 32 => Unit
def UnB : Nat → Ty := fun n => match n with | 0 => (.pair (.int .i64) (.pair (.int .i64) (.pair .bool (.pair (.int .u8) .unit)))) | 1 => (.pair .str (.pair (.int .u64) .unit)) | 2 => .unit | 3 => (.pair .str (.pair (.list .str) (.pair (.int .i64) (.pair .bool .unit)))) | 4 => (.pair .str (.pair .str .unit)) | 5 => (.pair (.int .i64) (.pair .str (.pair .str (.pair .str .unit)))) | 6 => (.pair (.list (.named 3)) .unit) | 7 => (.pair (.int .i64) (.pair (.named 3) .unit)) | 8 => (.pair (.int .i64) (.pair .str .unit)) | 9 => (.pair (.list .str) (.pair (.list .str) (.pair (.named 8) (.pair .str (.pair .str (.pair (.int .i64) .unit)))))) | 10 => (.pair (.int .i64) (.pair .str (.pair (.list .str) (.pair (.list .str) (.pair (.list .str) .unit))))) | 11 => .unit | 12 => .unit | 13 => (.pair .str (.pair (.int .i64) (.pair .err .unit))) | 14 => (.pair (.list (.named 9)) (.pair (.list (.int .i64)) .unit)) | 15 => (.pair .str (.pair (.int .i64) (.pair .err .unit))) | 16 => .unit | 17 => (.pair (.int .i64) (.pair (.int .i64) (.pair (.int .i64) (.pair (.arr 4 (.int .u64)) .unit)))) | 18 => (.pair (.int .i64) (.pair (.int .i64) (.pair (.arr 4 (.int .u64)) (.pair (.list (.named 18)) .unit)))) | 19 => .unit | 20 => (.pair .str (.pair (.int .i64) (.pair (.int .i64) (.pair .bool .unit)))) | 21 => (.pair (.list (.named 17)) .unit) | 22 => (.pair (.int .i64) (.pair (.arr 20 (.int .i64)) .unit)) | 23 => .unit | 24 => (.pair (.int .u8) (.pair (.int .u8) .unit)) | 25 => .unit | 26 => .unit | 27 => .unit | 28 => (.pair .str (.pair (.int .u8) .unit)) | 29 => (.pair .str .unit) | 30 => (.pair (.int .i32) (.pair (.int .u16) (.pair (.int .u16) (.pair (.int .u32) (.pair (.int .u32) .unit))))) | 31 => (.pair (.int .i32) (.pair (.int .i32) (.pair (.int .i32) (.pair (.int .i32) .unit)))) | _ + 32 => .unit
def UnOut : (n : Nat) → UnT n → (UnB n).den UnT := fun n => match n with | 0 => fun x => (x.f_x, x.f_y, x.f_signed, x.f_code, ()) | 1 => fun x => (x.f_msg, x.f_addr, ()) | 2 => fun _ => () | 3 => fun x => (x.f_Name, x.f_Words, x.f_Level, x.f_Hidden, ()) | 4 => fun x => (x.f_Command, x.f_Text, ()) | 5 => fun x => (x.f_Kind, x.f_Text, x.f_From, x.f_To, ()) | 6 => fun x => (x.f_All, ()) | 7 => fun x => (x.f_Kind, x.f_Var, ()) | 8 => fun x => (x.f_Flags, x.f_Prog, ()) | 9 => fun x => (x.f_Targets, x.f_Prereqs, x.f_Attr, x.f_Recipe, x.f_File, x.f_Line, ()) | 10 => fun x => (x.f_Rule, x.f_Stem, x.f_Subs, x.f_Targets, x.f_Prereqs, ()) | 11 => fun _ => () | 12 => fun _ => () | 13 => fun x => (x.f_s, x.f_at, x.f_err, ()) | 14 => fun x => (x.f_rules, x.f_kinds, ()) | 15 => fun x => (x.f_File, x.f_Line, x.f_Err, ()) | 16 => fun _ => () | 17 => fun x => (x.f_Op, x.f_X, x.f_Y, x.f_Set, ()) | 18 => fun x => (x.f_Kind, x.f_Index, x.f_Set, x.f_Kids, ()) | 19 => fun _ => () | 20 => fun x => (x.f_s, x.f_at, x.f_groups, x.f_bad, ()) | 21 => fun x => (x.f_code, ()) | 22 => fun x => (x.f_at, x.f_kept, ()) | 23 => fun _ => () | 24 => fun x => (x.f_lo, x.f_hi, ()) | 25 => fun _ => () | 26 => fun _ => () | 27 => fun _ => () | 28 => fun x => (x.f_Method, x.f_Kind, ()) | 29 => fun x => (x.f_s, ()) | 30 => fun x => (x.f_PkgPath, x.f_Mcount, x.f_Xcount, x.f_Moff, x.f_blank4, ()) | 31 => fun x => (x.f_Name, x.f_Mtyp, x.f_Ifn, x.f_Tfn, ()) | _ + 32 => fun _ => ()
def UnInn : (n : Nat) → (UnB n).den UnT → UnT n := fun n => match n with | 0 => fun (x : Int × Int × Bool × Int × Unit) => (T_runtime_boundsError.mk x.1 x.2.1 x.2.2.1 x.2.2.2.1 : T_runtime_boundsError) | 1 => fun (x : (List UInt8) × Int × Unit) => (T_runtime_errorAddressString.mk x.1 x.2.1 : T_runtime_errorAddressString) | 2 => fun _ => () | 3 => fun (x : (List UInt8) × (List (List UInt8)) × Int × Bool × Unit) => (T_env_Var.mk x.1 x.2.1 x.2.2.1 x.2.2.2.1 : T_env_Var) | 4 => fun (x : (List UInt8) × (List UInt8) × Unit) => (T_expand_Output.mk x.1 x.2.1 : T_expand_Output) | 5 => fun (x : Int × (List UInt8) × (List UInt8) × (List UInt8) × Unit) => (T_lex_Piece.mk x.1 x.2.1 x.2.2.1 x.2.2.2.1 : T_lex_Piece) | 6 => fun (x : (List T_env_Var) × Unit) => (T_millwrightref14_Env.mk x.1 : T_millwrightref14_Env) | 7 => fun (x : Int × T_env_Var × Unit) => (T_millwrightlaw14_Act.mk x.1 x.2.1 : T_millwrightlaw14_Act) | 8 => fun (x : Int × (List UInt8) × Unit) => (T_attr_Attr.mk x.1 x.2.1 : T_attr_Attr) | 9 => fun (x : (List (List UInt8)) × (List (List UInt8)) × T_attr_Attr × (List UInt8) × (List UInt8) × Int × Unit) => (T_load_Rule.mk x.1 x.2.1 x.2.2.1 x.2.2.2.1 x.2.2.2.2.1 x.2.2.2.2.2.1 : T_load_Rule) | 10 => fun (x : Int × (List UInt8) × (List (List UInt8)) × (List (List UInt8)) × (List (List UInt8)) × Unit) => (T_inst_Inst.mk x.1 x.2.1 x.2.2.1 x.2.2.2.1 x.2.2.2.2.1 : T_inst_Inst) | 11 => fun _ => () | 12 => fun _ => () | 13 => fun (x : (List UInt8) × Int × Nat × Unit) => (T_lex_reader.mk x.1 x.2.1 x.2.2.1 : T_lex_reader) | 14 => fun (x : (List T_load_Rule) × (List Int) × Unit) => (T_table_Table.mk x.1 x.2.1 : T_table_Table) | 15 => fun (x : (List UInt8) × Int × Nat × Unit) => (T_load_Fault.mk x.1 x.2.1 x.2.2.1 : T_load_Fault) | 16 => fun _ => () | 17 => fun (x : Int × Int × Int × (List Int) × Unit) => (T_prog_Instr.mk x.1 x.2.1 x.2.2.1 x.2.2.2.1 : T_prog_Instr) | 18 => fun (x : Int × Int × (List Int) × (List T_rex_Node) × Unit) => (T_rex_Node.mk x.1 x.2.1 x.2.2.1 x.2.2.2.1 : T_rex_Node) | 19 => fun _ => () | 20 => fun (x : (List UInt8) × Int × Int × Bool × Unit) => (T_rex_parser.mk x.1 x.2.1 x.2.2.1 x.2.2.2.1 : T_rex_parser) | 21 => fun (x : (List T_prog_Instr) × Unit) => (T_prog_writer.mk x.1 : T_prog_writer) | 22 => fun (x : Int × (List Int) × Unit) => (T_pike_thread.mk x.1 x.2.1 : T_pike_thread) | 23 => fun _ => () | 24 => fun (x : Int × Int × Unit) => (T_utf8_acceptRange.mk x.1 x.2.1 : T_utf8_acceptRange) | 25 => fun _ => () | 26 => fun _ => () | 27 => fun _ => () | 28 => fun (x : (List UInt8) × Int × Unit) => (T_reflectlite_ValueError.mk x.1 x.2.1 : T_reflectlite_ValueError) | 29 => fun (x : (List UInt8) × Unit) => (T_errors_errorString.mk x.1 : T_errors_errorString) | 30 => fun (x : Int × Int × Int × Int × Int × Unit) => (T_abi_UncommonType.mk x.1 x.2.1 x.2.2.1 x.2.2.2.1 x.2.2.2.2.1 : T_abi_UncommonType) | 31 => fun (x : Int × Int × Int × Int × Unit) => (T_abi_Method.mk x.1 x.2.1 x.2.2.1 x.2.2.2.1 : T_abi_Method) | _ + 32 => fun _ => ()
def UnW : Nat → Nat := fun n => match n with | 0 => 4 | 1 => 2 | 2 => 0 | 3 => 4 | 4 => 2 | 5 => 4 | 6 => 1 | 7 => 5 | 8 => 2 | 9 => 7 | 10 => 5 | 11 => 0 | 12 => 0 | 13 => 3 | 14 => 2 | 15 => 3 | 16 => 0 | 17 => 7 | 18 => 7 | 19 => 0 | 20 => 4 | 21 => 1 | 22 => 21 | 23 => 0 | 24 => 2 | 25 => 0 | 26 => 0 | 27 => 0 | 28 => 2 | 29 => 1 | 30 => 5 | 31 => 4 | _ + 32 => 0
def UnF : Nat → Bool := fun n => match n with | 0 => true | 1 => true | 2 => true | 3 => false | 4 => true | 5 => true | 6 => false | 7 => false | 8 => true | 9 => false | 10 => false | 11 => true | 12 => true | 13 => true | 14 => false | 15 => true | 16 => true | 17 => true | 18 => false | 19 => true | 20 => true | 21 => false | 22 => true | 23 => true | 24 => true | 25 => true | 26 => true | 27 => true | 28 => true | 29 => true | 30 => true | 31 => true | _ + 32 => true
theorem un_out_inn : ∀ n x, UnOut n (UnInn n x) = x := by
  intro n
  match n with
  | 0 => exact fun _ => rfl
  | 1 => exact fun _ => rfl
  | 2 => exact fun _ => rfl
  | 3 => exact fun _ => rfl
  | 4 => exact fun _ => rfl
  | 5 => exact fun _ => rfl
  | 6 => exact fun _ => rfl
  | 7 => exact fun _ => rfl
  | 8 => exact fun _ => rfl
  | 9 => exact fun _ => rfl
  | 10 => exact fun _ => rfl
  | 11 => exact fun _ => rfl
  | 12 => exact fun _ => rfl
  | 13 => exact fun _ => rfl
  | 14 => exact fun _ => rfl
  | 15 => exact fun _ => rfl
  | 16 => exact fun _ => rfl
  | 17 => exact fun _ => rfl
  | 18 => exact fun _ => rfl
  | 19 => exact fun _ => rfl
  | 20 => exact fun _ => rfl
  | 21 => exact fun _ => rfl
  | 22 => exact fun _ => rfl
  | 23 => exact fun _ => rfl
  | 24 => exact fun _ => rfl
  | 25 => exact fun _ => rfl
  | 26 => exact fun _ => rfl
  | 27 => exact fun _ => rfl
  | 28 => exact fun _ => rfl
  | 29 => exact fun _ => rfl
  | 30 => exact fun _ => rfl
  | 31 => exact fun _ => rfl
  | _ + 32 => exact fun _ => rfl
theorem un_inn_out : ∀ n x, UnInn n (UnOut n x) = x := by
  intro n
  match n with
  | 0 => exact fun x => by cases x; rfl
  | 1 => exact fun x => by cases x; rfl
  | 2 => exact fun _ => rfl
  | 3 => exact fun x => by cases x; rfl
  | 4 => exact fun x => by cases x; rfl
  | 5 => exact fun x => by cases x; rfl
  | 6 => exact fun x => by cases x; rfl
  | 7 => exact fun x => by cases x; rfl
  | 8 => exact fun x => by cases x; rfl
  | 9 => exact fun x => by cases x; rfl
  | 10 => exact fun x => by cases x; rfl
  | 11 => exact fun _ => rfl
  | 12 => exact fun _ => rfl
  | 13 => exact fun x => by cases x; rfl
  | 14 => exact fun x => by cases x; rfl
  | 15 => exact fun x => by cases x; rfl
  | 16 => exact fun _ => rfl
  | 17 => exact fun x => by cases x; rfl
  | 18 => exact fun x => by cases x; rfl
  | 19 => exact fun _ => rfl
  | 20 => exact fun x => by cases x; rfl
  | 21 => exact fun x => by cases x; rfl
  | 22 => exact fun x => by cases x; rfl
  | 23 => exact fun _ => rfl
  | 24 => exact fun x => by cases x; rfl
  | 25 => exact fun _ => rfl
  | 26 => exact fun _ => rfl
  | 27 => exact fun _ => rfl
  | 28 => exact fun x => by cases x; rfl
  | 29 => exact fun x => by cases x; rfl
  | 30 => exact fun x => by cases x; rfl
  | 31 => exact fun x => by cases x; rfl
  | _ + 32 => exact fun _ => rfl
theorem un_wd : ∀ n, (UnB n).width UnW = UnW n := by
  intro n
  match n with
  | 0 => rfl
  | 1 => rfl
  | 2 => rfl
  | 3 => rfl
  | 4 => rfl
  | 5 => rfl
  | 6 => rfl
  | 7 => rfl
  | 8 => rfl
  | 9 => rfl
  | 10 => rfl
  | 11 => rfl
  | 12 => rfl
  | 13 => rfl
  | 14 => rfl
  | 15 => rfl
  | 16 => rfl
  | 17 => rfl
  | 18 => rfl
  | 19 => rfl
  | 20 => rfl
  | 21 => rfl
  | 22 => rfl
  | 23 => rfl
  | 24 => rfl
  | 25 => rfl
  | 26 => rfl
  | 27 => rfl
  | 28 => rfl
  | 29 => rfl
  | 30 => rfl
  | 31 => rfl
  | _ + 32 => rfl
theorem un_fl : ∀ n, UnF n = true → (UnB n).flat UnF = true := by
  intro n
  match n with
  | 0 => exact fun h => by first | rfl | cases h
  | 1 => exact fun h => by first | rfl | cases h
  | 2 => exact fun h => by first | rfl | cases h
  | 3 => exact fun h => by first | rfl | cases h
  | 4 => exact fun h => by first | rfl | cases h
  | 5 => exact fun h => by first | rfl | cases h
  | 6 => exact fun h => by first | rfl | cases h
  | 7 => exact fun h => by first | rfl | cases h
  | 8 => exact fun h => by first | rfl | cases h
  | 9 => exact fun h => by first | rfl | cases h
  | 10 => exact fun h => by first | rfl | cases h
  | 11 => exact fun h => by first | rfl | cases h
  | 12 => exact fun h => by first | rfl | cases h
  | 13 => exact fun h => by first | rfl | cases h
  | 14 => exact fun h => by first | rfl | cases h
  | 15 => exact fun h => by first | rfl | cases h
  | 16 => exact fun h => by first | rfl | cases h
  | 17 => exact fun h => by first | rfl | cases h
  | 18 => exact fun h => by first | rfl | cases h
  | 19 => exact fun h => by first | rfl | cases h
  | 20 => exact fun h => by first | rfl | cases h
  | 21 => exact fun h => by first | rfl | cases h
  | 22 => exact fun h => by first | rfl | cases h
  | 23 => exact fun h => by first | rfl | cases h
  | 24 => exact fun h => by first | rfl | cases h
  | 25 => exact fun h => by first | rfl | cases h
  | 26 => exact fun h => by first | rfl | cases h
  | 27 => exact fun h => by first | rfl | cases h
  | 28 => exact fun h => by first | rfl | cases h
  | 29 => exact fun h => by first | rfl | cases h
  | 30 => exact fun h => by first | rfl | cases h
  | 31 => exact fun h => by first | rfl | cases h
  | _ + 32 => exact fun _ => rfl
def Un : Univ where
  T := UnT
  body := UnB
  out := UnOut
  inn := UnInn
  out_inn := un_out_inn
  inn_out := un_inn_out
  wd := UnW
  wd_ok := un_wd
  fl := UnF
  fl_ok := un_fl
theorem mixed : Tryz.prog.follows .mixedOrders = true := by kernel_rfl
theorem az_61 : ∃ v cs, (Tryz.prog.info? 61).bind (·.zero) = some v ∧ v.cells.toList = cs ∧ ZU Un [.p (.int .i64) (0 : Int), .p .str ([] : List UInt8), .p .str ([] : List UInt8), .p .str ([] : List UInt8)] cs := ⟨(.agg #[.int .i64 0, .string ByteArray.empty, .string ByteArray.empty, .string ByteArray.empty]), _, by kernel_rfl, rfl, (.data (fun _ _ _ => .int _ _) (.data (fun _ _ _ => rd_str0) (.data (fun _ _ _ => rd_str0) (.data (fun _ _ _ => rd_str0) .nil))))⟩
theorem az_68 : ∃ v cs, (Tryz.prog.info? 68).bind (·.zero) = some v ∧ v.cells.toList = cs ∧ ZU Un [.p .str ([] : List UInt8), .p (.list .str) ([] : List (List UInt8)), .p (.int .i64) (0 : Int), .p .bool false] cs := ⟨(.agg #[.string ByteArray.empty, .slice none 0 0, .int .i64 0, .bool false]), _, by kernel_rfl, rfl, (.data (fun _ _ _ => rd_str0) (.data (fun _ _ _ => .lnil _) (.data (fun _ _ _ => .int _ _) (.data (fun _ _ _ => .bool _) .nil))))⟩
theorem az_70 : ∃ v cs, (Tryz.prog.info? 70).bind (·.zero) = some v ∧ v.cells.toList = cs ∧ ZU Un [.p .str ([] : List UInt8), .p .str ([] : List UInt8)] cs := ⟨(.agg #[.string ByteArray.empty, .string ByteArray.empty]), _, by kernel_rfl, rfl, (.data (fun _ _ _ => rd_str0) (.data (fun _ _ _ => rd_str0) .nil))⟩
theorem az_76 : ∃ v cs, (Tryz.prog.info? 76).bind (·.zero) = some v ∧ v.cells.toList = cs ∧ ZU Un [.p (.int .i64) (0 : Int), .p .str ([] : List UInt8), .p (.list .str) ([] : List (List UInt8)), .p (.int .i64) (0 : Int), .p .bool false] cs := ⟨(.agg #[.int .i64 0, .string ByteArray.empty, .slice none 0 0, .int .i64 0, .bool false]), _, by kernel_rfl, rfl, (.data (fun _ _ _ => .int _ _) (.data (fun _ _ _ => rd_str0) (.data (fun _ _ _ => .lnil _) (.data (fun _ _ _ => .int _ _) (.data (fun _ _ _ => .bool _) .nil)))))⟩
theorem az_79 : ∃ v cs, (Tryz.prog.info? 79).bind (·.zero) = some v ∧ v.cells.toList = cs ∧ ZU Un [.p .str ([] : List UInt8), .p (.list .str) ([] : List (List UInt8)), .p (.int .i64) (0 : Int), .p .bool false] cs := ⟨(.agg #[.string ByteArray.empty, .slice none 0 0, .int .i64 0, .bool false]), _, by kernel_rfl, rfl, (.data (fun _ _ _ => rd_str0) (.data (fun _ _ _ => .lnil _) (.data (fun _ _ _ => .int _ _) (.data (fun _ _ _ => .bool _) .nil))))⟩
theorem az_84 : ∃ v cs, (Tryz.prog.info? 84).bind (·.zero) = some v ∧ v.cells.toList = cs ∧ ZU Un [.p .str ([] : List UInt8), .p .str ([] : List UInt8)] cs := ⟨(.agg #[.string ByteArray.empty, .string ByteArray.empty]), _, by kernel_rfl, rfl, (.data (fun _ _ _ => rd_str0) (.data (fun _ _ _ => rd_str0) .nil))⟩
theorem az_107 : ∃ v cs, (Tryz.prog.info? 107).bind (·.zero) = some v ∧ v.cells.toList = cs ∧ ZU Un [.p (.int .i64) (0 : Int), .p .str ([] : List UInt8), .p .str ([] : List UInt8), .p .str ([] : List UInt8)] cs := ⟨(.agg #[.int .i64 0, .string ByteArray.empty, .string ByteArray.empty, .string ByteArray.empty]), _, by kernel_rfl, rfl, (.data (fun _ _ _ => .int _ _) (.data (fun _ _ _ => rd_str0) (.data (fun _ _ _ => rd_str0) (.data (fun _ _ _ => rd_str0) .nil))))⟩
theorem ty_3 : TyOk Tryz.prog Un 3 (.int .i64) := tyOk_mk (c := 1) (by kernel_rfl) rfl Tryz.underlying3 rfl
theorem fd_61_0 : FdOk Tryz.prog Un 61 0 0 3 (.int .i64) := ⟨⟨_, _, Tryz.underlying61, rfl, rfl, rfl⟩, ty_3⟩
theorem ty_9 : TyOk Tryz.prog Un 9 .str := tyOk_mk (c := 1) (by kernel_rfl) rfl Tryz.underlying9 rfl
theorem fd_61_1 : FdOk Tryz.prog Un 61 1 1 9 .str := ⟨⟨_, _, Tryz.underlying61, rfl, rfl, rfl⟩, ty_9⟩
theorem fd_61_2 : FdOk Tryz.prog Un 61 2 2 9 .str := ⟨⟨_, _, Tryz.underlying61, rfl, rfl, rfl⟩, ty_9⟩
theorem fd_61_3 : FdOk Tryz.prog Un 61 3 3 9 .str := ⟨⟨_, _, Tryz.underlying61, rfl, rfl, rfl⟩, ty_9⟩
theorem fd_68_0 : FdOk Tryz.prog Un 68 0 0 9 .str := ⟨⟨_, _, Tryz.underlying68, rfl, rfl, rfl⟩, ty_9⟩
theorem ty_30 : TyOk Tryz.prog Un 30 (.list .str) := tyOk_mk (c := 1) (by kernel_rfl) rfl Tryz.underlying30 rfl
theorem fd_68_1 : FdOk Tryz.prog Un 68 1 1 30 (.list .str) := ⟨⟨_, _, Tryz.underlying68, rfl, rfl, rfl⟩, ty_30⟩
theorem fd_68_2 : FdOk Tryz.prog Un 68 2 2 3 (.int .i64) := ⟨⟨_, _, Tryz.underlying68, rfl, rfl, rfl⟩, ty_3⟩
theorem fd_70_0 : FdOk Tryz.prog Un 70 0 0 9 .str := ⟨⟨_, _, Tryz.underlying70, rfl, rfl, rfl⟩, ty_9⟩
theorem fd_70_1 : FdOk Tryz.prog Un 70 1 1 9 .str := ⟨⟨_, _, Tryz.underlying70, rfl, rfl, rfl⟩, ty_9⟩
theorem ty_71 : TyOk Tryz.prog Un 71 (.list (.named 3)) := tyOk_mk (c := 1) (by kernel_rfl) rfl Tryz.underlying71 rfl
theorem fd_73_0 : FdOk Tryz.prog Un 73 0 0 71 (.list (.named 3)) := ⟨⟨_, _, Tryz.underlying73, rfl, rfl, rfl⟩, ty_71⟩
theorem ty_68 : TyOk Tryz.prog Un 68 (.named 3) := tyOk_mk (c := 4) (by kernel_rfl) rfl Tryz.underlying68 rfl
theorem fd_76_1 : FdOk Tryz.prog Un 76 1 1 68 (.named 3) := ⟨⟨_, _, Tryz.underlying76, rfl, rfl, rfl⟩, ty_68⟩
theorem fd_79_0 : FdOk Tryz.prog Un 79 0 0 9 .str := ⟨⟨_, _, Tryz.underlying79, rfl, rfl, rfl⟩, ty_9⟩
theorem fd_79_1 : FdOk Tryz.prog Un 79 1 1 30 (.list .str) := ⟨⟨_, _, Tryz.underlying79, rfl, rfl, rfl⟩, ty_30⟩
theorem fd_79_2 : FdOk Tryz.prog Un 79 2 2 3 (.int .i64) := ⟨⟨_, _, Tryz.underlying79, rfl, rfl, rfl⟩, ty_3⟩
theorem fd_84_0 : FdOk Tryz.prog Un 84 0 0 9 .str := ⟨⟨_, _, Tryz.underlying84, rfl, rfl, rfl⟩, ty_9⟩
theorem fd_84_1 : FdOk Tryz.prog Un 84 1 1 9 .str := ⟨⟨_, _, Tryz.underlying84, rfl, rfl, rfl⟩, ty_9⟩
theorem ty1_26 : TyOk Tryz.prog Un 26 .bool := tyOk_mk (c := 1) (by kernel_rfl) rfl Tryz.underlying26 rfl
theorem fd_105_0 : FdOk Tryz.prog Un 105 0 0 26 .bool := ⟨⟨_, _, Tryz.underlying105, rfl, rfl, rfl⟩, ty1_26⟩
theorem ty_23 : TyOk Tryz.prog Un 23 (.list (.named 4)) := tyOk_mk (c := 1) (by kernel_rfl) rfl Tryz.underlying23 rfl
theorem fd_105_1 : FdOk Tryz.prog Un 105 1 1 23 (.list (.named 4)) := ⟨⟨_, _, Tryz.underlying105, rfl, rfl, rfl⟩, ty_23⟩
theorem fd_107_0 : FdOk Tryz.prog Un 107 0 0 3 (.int .i64) := ⟨⟨_, _, Tryz.underlying107, rfl, rfl, rfl⟩, ty_3⟩
theorem fd_107_1 : FdOk Tryz.prog Un 107 1 1 9 .str := ⟨⟨_, _, Tryz.underlying107, rfl, rfl, rfl⟩, ty_9⟩
theorem fd_107_2 : FdOk Tryz.prog Un 107 2 2 9 .str := ⟨⟨_, _, Tryz.underlying107, rfl, rfl, rfl⟩, ty_9⟩
theorem fd_107_3 : FdOk Tryz.prog Un 107 3 3 9 .str := ⟨⟨_, _, Tryz.underlying107, rfl, rfl, rfl⟩, ty_9⟩
theorem ty1_110 : TyOk Tryz.prog Un 110 .bool := tyOk_mk (c := 1) (by kernel_rfl) rfl Tryz.underlying110 rfl
theorem fd_112_0 : FdOk Tryz.prog Un 112 0 0 110 .bool := ⟨⟨_, _, Tryz.underlying112, rfl, rfl, rfl⟩, ty1_110⟩
theorem fd_118_0 : FdOk Tryz.prog Un 118 0 0 9 .str := ⟨⟨_, _, Tryz.underlying118, rfl, rfl, rfl⟩, ty_9⟩
theorem fd_118_1 : FdOk Tryz.prog Un 118 1 1 3 (.int .i64) := ⟨⟨_, _, Tryz.underlying118, rfl, rfl, rfl⟩, ty_3⟩
theorem ty_32 : TyOk Tryz.prog Un 32 .err := tyOk_mk (c := 1) (by kernel_rfl) rfl Tryz.underlying32 rfl
theorem fd_118_2 : FdOk Tryz.prog Un 118 2 2 32 .err := ⟨⟨_, _, Tryz.underlying118, rfl, rfl, rfl⟩, ty_32⟩
theorem hb_6 : HasBody Tryz.prog 6 := ⟨⟨_, Tryz.func6, by kernel_rfl, rfl⟩⟩
theorem hb_7 : HasBody Tryz.prog 7 := ⟨⟨_, Tryz.func7, by kernel_rfl, rfl⟩⟩
theorem hb_8 : HasBody Tryz.prog 8 := ⟨⟨_, Tryz.func8, by kernel_rfl, rfl⟩⟩
theorem hb_9 : HasBody Tryz.prog 9 := ⟨⟨_, Tryz.func9, by kernel_rfl, rfl⟩⟩
theorem hb_10 : HasBody Tryz.prog 10 := ⟨⟨_, Tryz.func10, by kernel_rfl, rfl⟩⟩
theorem hb_11 : HasBody Tryz.prog 11 := ⟨⟨_, Tryz.func11, by kernel_rfl, rfl⟩⟩
theorem hb_12 : HasBody Tryz.prog 12 := ⟨⟨_, Tryz.func12, by kernel_rfl, rfl⟩⟩
theorem hb_13 : HasBody Tryz.prog 13 := ⟨⟨_, Tryz.func13, by kernel_rfl, rfl⟩⟩
theorem hb_14 : HasBody Tryz.prog 14 := ⟨⟨_, Tryz.func14, by kernel_rfl, rfl⟩⟩
theorem hb_15 : HasBody Tryz.prog 15 := ⟨⟨_, Tryz.func15, by kernel_rfl, rfl⟩⟩
theorem hb_17 : HasBody Tryz.prog 17 := ⟨⟨_, Tryz.func17, by kernel_rfl, rfl⟩⟩
theorem hb_22 : HasBody Tryz.prog 22 := ⟨⟨_, Tryz.func22, by kernel_rfl, rfl⟩⟩
theorem hb_23 : HasBody Tryz.prog 23 := ⟨⟨_, Tryz.func23, by kernel_rfl, rfl⟩⟩
theorem hb_24 : HasBody Tryz.prog 24 := ⟨⟨_, Tryz.func24, by kernel_rfl, rfl⟩⟩
theorem hb_25 : HasBody Tryz.prog 25 := ⟨⟨_, Tryz.func25, by kernel_rfl, rfl⟩⟩
theorem hb_26 : HasBody Tryz.prog 26 := ⟨⟨_, Tryz.func26, by kernel_rfl, rfl⟩⟩
theorem hb_27 : HasBody Tryz.prog 27 := ⟨⟨_, Tryz.func27, by kernel_rfl, rfl⟩⟩
theorem hb_28 : HasBody Tryz.prog 28 := ⟨⟨_, Tryz.func28, by kernel_rfl, rfl⟩⟩
theorem hb_29 : HasBody Tryz.prog 29 := ⟨⟨_, Tryz.func29, by kernel_rfl, rfl⟩⟩
theorem hb_30 : HasBody Tryz.prog 30 := ⟨⟨_, Tryz.func30, by kernel_rfl, rfl⟩⟩
theorem hb_31 : HasBody Tryz.prog 31 := ⟨⟨_, Tryz.func31, by kernel_rfl, rfl⟩⟩
theorem hb_32 : HasBody Tryz.prog 32 := ⟨⟨_, Tryz.func32, by kernel_rfl, rfl⟩⟩
theorem hb_33 : HasBody Tryz.prog 33 := ⟨⟨_, Tryz.func33, by kernel_rfl, rfl⟩⟩
theorem hb_34 : HasBody Tryz.prog 34 := ⟨⟨_, Tryz.func34, by kernel_rfl, rfl⟩⟩
theorem hb_35 : HasBody Tryz.prog 35 := ⟨⟨_, Tryz.func35, by kernel_rfl, rfl⟩⟩
theorem hb_36 : HasBody Tryz.prog 36 := ⟨⟨_, Tryz.func36, by kernel_rfl, rfl⟩⟩
theorem hb_37 : HasBody Tryz.prog 37 := ⟨⟨_, Tryz.func37, by kernel_rfl, rfl⟩⟩
theorem hb_38 : HasBody Tryz.prog 38 := ⟨⟨_, Tryz.func38, by kernel_rfl, rfl⟩⟩
theorem hb_39 : HasBody Tryz.prog 39 := ⟨⟨_, Tryz.func39, by kernel_rfl, rfl⟩⟩
theorem hb_40 : HasBody Tryz.prog 40 := ⟨⟨_, Tryz.func40, by kernel_rfl, rfl⟩⟩
theorem hb_44 : HasBody Tryz.prog 44 := ⟨⟨_, Tryz.func44, by kernel_rfl, rfl⟩⟩
theorem hb_45 : HasBody Tryz.prog 45 := ⟨⟨_, Tryz.func45, by kernel_rfl, rfl⟩⟩
theorem hb_46 : HasBody Tryz.prog 46 := ⟨⟨_, Tryz.func46, by kernel_rfl, rfl⟩⟩
theorem hb_47 : HasBody Tryz.prog 47 := ⟨⟨_, Tryz.func47, by kernel_rfl, rfl⟩⟩
theorem hb_48 : HasBody Tryz.prog 48 := ⟨⟨_, Tryz.func48, by kernel_rfl, rfl⟩⟩
theorem hb_49 : HasBody Tryz.prog 49 := ⟨⟨_, Tryz.func49, by kernel_rfl, rfl⟩⟩
theorem hb_50 : HasBody Tryz.prog 50 := ⟨⟨_, Tryz.func50, by kernel_rfl, rfl⟩⟩
theorem hb_51 : HasBody Tryz.prog 51 := ⟨⟨_, Tryz.func51, by kernel_rfl, rfl⟩⟩
theorem hb_52 : HasBody Tryz.prog 52 := ⟨⟨_, Tryz.func52, by kernel_rfl, rfl⟩⟩
theorem hb_53 : HasBody Tryz.prog 53 := ⟨⟨_, Tryz.func53, by kernel_rfl, rfl⟩⟩
theorem hb_54 : HasBody Tryz.prog 54 := ⟨⟨_, Tryz.func54, by kernel_rfl, rfl⟩⟩
theorem hb_55 : HasBody Tryz.prog 55 := ⟨⟨_, Tryz.func55, by kernel_rfl, rfl⟩⟩
theorem hb_64 : HasBody Tryz.prog 64 := ⟨⟨_, Tryz.func64, by kernel_rfl, rfl⟩⟩
theorem hb_65 : HasBody Tryz.prog 65 := ⟨⟨_, Tryz.func65, by kernel_rfl, rfl⟩⟩
theorem hb_66 : HasBody Tryz.prog 66 := ⟨⟨_, Tryz.func66, by kernel_rfl, rfl⟩⟩
theorem hb_67 : HasBody Tryz.prog 67 := ⟨⟨_, Tryz.func67, by kernel_rfl, rfl⟩⟩
theorem hb_68 : HasBody Tryz.prog 68 := ⟨⟨_, Tryz.func68, by kernel_rfl, rfl⟩⟩
theorem hb_69 : HasBody Tryz.prog 69 := ⟨⟨_, Tryz.func69, by kernel_rfl, rfl⟩⟩
theorem hb_70 : HasBody Tryz.prog 70 := ⟨⟨_, Tryz.func70, by kernel_rfl, rfl⟩⟩
theorem hb_71 : HasBody Tryz.prog 71 := ⟨⟨_, Tryz.func71, by kernel_rfl, rfl⟩⟩
theorem hb_72 : HasBody Tryz.prog 72 := ⟨⟨_, Tryz.func72, by kernel_rfl, rfl⟩⟩
theorem hb_73 : HasBody Tryz.prog 73 := ⟨⟨_, Tryz.func73, by kernel_rfl, rfl⟩⟩
theorem hb_74 : HasBody Tryz.prog 74 := ⟨⟨_, Tryz.func74, by kernel_rfl, rfl⟩⟩
theorem hb_75 : HasBody Tryz.prog 75 := ⟨⟨_, Tryz.func75, by kernel_rfl, rfl⟩⟩
theorem hb_76 : HasBody Tryz.prog 76 := ⟨⟨_, Tryz.func76, by kernel_rfl, rfl⟩⟩
theorem hb_77 : HasBody Tryz.prog 77 := ⟨⟨_, Tryz.func77, by kernel_rfl, rfl⟩⟩
theorem hb_78 : HasBody Tryz.prog 78 := ⟨⟨_, Tryz.func78, by kernel_rfl, rfl⟩⟩
theorem hb_79 : HasBody Tryz.prog 79 := ⟨⟨_, Tryz.func79, by kernel_rfl, rfl⟩⟩
theorem hb_80 : HasBody Tryz.prog 80 := ⟨⟨_, Tryz.func80, by kernel_rfl, rfl⟩⟩
theorem hb_81 : HasBody Tryz.prog 81 := ⟨⟨_, Tryz.func81, by kernel_rfl, rfl⟩⟩
theorem hb_82 : HasBody Tryz.prog 82 := ⟨⟨_, Tryz.func82, by kernel_rfl, rfl⟩⟩
theorem hb_83 : HasBody Tryz.prog 83 := ⟨⟨_, Tryz.func83, by kernel_rfl, rfl⟩⟩
theorem hb_84 : HasBody Tryz.prog 84 := ⟨⟨_, Tryz.func84, by kernel_rfl, rfl⟩⟩
theorem hb_96 : HasBody Tryz.prog 96 := ⟨⟨_, Tryz.func96, by kernel_rfl, rfl⟩⟩
theorem hb_97 : HasBody Tryz.prog 97 := ⟨⟨_, Tryz.func97, by kernel_rfl, rfl⟩⟩
theorem hb_98 : HasBody Tryz.prog 98 := ⟨⟨_, Tryz.func98, by kernel_rfl, rfl⟩⟩
theorem hb_99 : HasBody Tryz.prog 99 := ⟨⟨_, Tryz.func99, by kernel_rfl, rfl⟩⟩
theorem hb_100 : HasBody Tryz.prog 100 := ⟨⟨_, Tryz.func100, by kernel_rfl, rfl⟩⟩
theorem hb_101 : HasBody Tryz.prog 101 := ⟨⟨_, Tryz.func101, by kernel_rfl, rfl⟩⟩
theorem hb_102 : HasBody Tryz.prog 102 := ⟨⟨_, Tryz.func102, by kernel_rfl, rfl⟩⟩
theorem hb_103 : HasBody Tryz.prog 103 := ⟨⟨_, Tryz.func103, by kernel_rfl, rfl⟩⟩
theorem hb_104 : HasBody Tryz.prog 104 := ⟨⟨_, Tryz.func104, by kernel_rfl, rfl⟩⟩
theorem hb_105 : HasBody Tryz.prog 105 := ⟨⟨_, Tryz.func105, by kernel_rfl, rfl⟩⟩
theorem hb_107 : HasBody Tryz.prog 107 := ⟨⟨_, Tryz.func107, by kernel_rfl, rfl⟩⟩
theorem hb_108 : HasBody Tryz.prog 108 := ⟨⟨_, Tryz.func108, by kernel_rfl, rfl⟩⟩
theorem hb_109 : HasBody Tryz.prog 109 := ⟨⟨_, Tryz.func109, by kernel_rfl, rfl⟩⟩
theorem hb_110 : HasBody Tryz.prog 110 := ⟨⟨_, Tryz.func110, by kernel_rfl, rfl⟩⟩
theorem hb_111 : HasBody Tryz.prog 111 := ⟨⟨_, Tryz.func111, by kernel_rfl, rfl⟩⟩
theorem hb_112 : HasBody Tryz.prog 112 := ⟨⟨_, Tryz.func112, by kernel_rfl, rfl⟩⟩
theorem hb_113 : HasBody Tryz.prog 113 := ⟨⟨_, Tryz.func113, by kernel_rfl, rfl⟩⟩
theorem hb_114 : HasBody Tryz.prog 114 := ⟨⟨_, Tryz.func114, by kernel_rfl, rfl⟩⟩
theorem hb_115 : HasBody Tryz.prog 115 := ⟨⟨_, Tryz.func115, by kernel_rfl, rfl⟩⟩
theorem hb_120 : HasBody Tryz.prog 120 := ⟨⟨_, Tryz.func120, by kernel_rfl, rfl⟩⟩
theorem hb_124 : HasBody Tryz.prog 124 := ⟨⟨_, Tryz.func124, by kernel_rfl, rfl⟩⟩
theorem hb_128 : HasBody Tryz.prog 128 := ⟨⟨_, Tryz.func128, by kernel_rfl, rfl⟩⟩
theorem hb_129 : HasBody Tryz.prog 129 := ⟨⟨_, Tryz.func129, by kernel_rfl, rfl⟩⟩
theorem hb_130 : HasBody Tryz.prog 130 := ⟨⟨_, Tryz.func130, by kernel_rfl, rfl⟩⟩
theorem hb_131 : HasBody Tryz.prog 131 := ⟨⟨_, Tryz.func131, by kernel_rfl, rfl⟩⟩
theorem hb_132 : HasBody Tryz.prog 132 := ⟨⟨_, Tryz.func132, by kernel_rfl, rfl⟩⟩
theorem hb_133 : HasBody Tryz.prog 133 := ⟨⟨_, Tryz.func133, by kernel_rfl, rfl⟩⟩
theorem hb_134 : HasBody Tryz.prog 134 := ⟨⟨_, Tryz.func134, by kernel_rfl, rfl⟩⟩
theorem hb_139 : HasBody Tryz.prog 139 := ⟨⟨_, Tryz.func139, by kernel_rfl, rfl⟩⟩
theorem hb_140 : HasBody Tryz.prog 140 := ⟨⟨_, Tryz.func140, by kernel_rfl, rfl⟩⟩
theorem hb_141 : HasBody Tryz.prog 141 := ⟨⟨_, Tryz.func141, by kernel_rfl, rfl⟩⟩
theorem hb_142 : HasBody Tryz.prog 142 := ⟨⟨_, Tryz.func142, by kernel_rfl, rfl⟩⟩
theorem hb_143 : HasBody Tryz.prog 143 := ⟨⟨_, Tryz.func143, by kernel_rfl, rfl⟩⟩
theorem hb_146 : HasBody Tryz.prog 146 := ⟨⟨_, Tryz.func146, by kernel_rfl, rfl⟩⟩
theorem hb_147 : HasBody Tryz.prog 147 := ⟨⟨_, Tryz.func147, by kernel_rfl, rfl⟩⟩
theorem hb_159 : HasBody Tryz.prog 159 := ⟨⟨_, Tryz.func159, by kernel_rfl, rfl⟩⟩
theorem hb_160 : HasBody Tryz.prog 160 := ⟨⟨_, Tryz.func160, by kernel_rfl, rfl⟩⟩
theorem hb_179 : HasBody Tryz.prog 179 := ⟨⟨_, Tryz.func179, by kernel_rfl, rfl⟩⟩
theorem hb_180 : HasBody Tryz.prog 180 := ⟨⟨_, Tryz.func180, by kernel_rfl, rfl⟩⟩
theorem lays_61 : lays Tryz.prog 61 = some ([.int .i64 0, .string ByteArray.empty, .string ByteArray.empty, .string ByteArray.empty], (fun i => ([(0, 1), (1, 1), (2, 1), (3, 1)] : List (Nat × Nat)).toArray[i]?)) := by kernel_rfl
theorem lays_68 : lays Tryz.prog 68 = some ([.string ByteArray.empty, .slice none 0 0, .int .i64 0, .bool false], (fun i => ([(0, 1), (1, 1), (2, 1), (3, 1)] : List (Nat × Nat)).toArray[i]?)) := by kernel_rfl
theorem lays_73 : lays Tryz.prog 73 = some ([.slice none 0 0], (fun i => ([(0, 1)] : List (Nat × Nat)).toArray[i]?)) := by kernel_rfl
theorem lays_76 : lays Tryz.prog 76 = some ([.int .i64 0, .string ByteArray.empty, .slice none 0 0, .int .i64 0, .bool false], (fun i => ([(0, 1), (1, 4)] : List (Nat × Nat)).toArray[i]?)) := by kernel_rfl
theorem lays_105 : lays Tryz.prog 105 = some ([.pointer none, .slice none 0 0], (fun i => ([(0, 1), (1, 1)] : List (Nat × Nat)).toArray[i]?)) := by kernel_rfl
theorem lays_107 : lays Tryz.prog 107 = some ([.int .i64 0, .string ByteArray.empty, .string ByteArray.empty, .string ByteArray.empty], (fun i => ([(0, 1), (1, 1), (2, 1), (3, 1)] : List (Nat × Nat)).toArray[i]?)) := by kernel_rfl
theorem lays_112 : lays Tryz.prog 112 = some ([.map none], (fun i => ([(0, 1)] : List (Nat × Nat)).toArray[i]?)) := by kernel_rfl
theorem lays_118 : lays Tryz.prog 118 = some ([.string ByteArray.empty, .int .i64 0, .nilIface], (fun i => ([(0, 1), (1, 1), (2, 1)] : List (Nat × Nat)).toArray[i]?)) := by kernel_rfl
theorem map_110 : MapOk Tryz.prog 110 9 68 := ⟨Tryz.underlying110, Tryz.underlying9⟩
theorem sl_30 : SlOk Tryz.prog Un 30 9 .str := ⟨Tryz.underlying30, ty_9⟩
theorem row_30 : RowOk Tryz.prog Un 30 9 .str 16 := rowOk_mk (c := 1) sl_30 (by kernel_rfl) rfl (by decide)
theorem ty_84 : TyOk Tryz.prog Un 84 (.named 4) := tyOk_mk (c := 2) (by kernel_rfl) rfl Tryz.underlying84 rfl
theorem sl_37 : SlOk Tryz.prog Un 37 84 (.named 4) := ⟨Tryz.underlying37, ty_84⟩
theorem row_37 : RowOk Tryz.prog Un 37 84 (.named 4) 32 := rowOk_mk (c := 2) sl_37 (by kernel_rfl) rfl (by decide)
theorem ty_55 : TyOk Tryz.prog Un 55 (.list (.named 5)) := tyOk_mk (c := 1) (by kernel_rfl) rfl Tryz.underlying55 rfl
theorem sl_49 : SlOk Tryz.prog Un 49 55 (.list (.named 5)) := ⟨Tryz.underlying49, ty_55⟩
theorem row_49 : RowOk Tryz.prog Un 49 55 (.list (.named 5)) 24 := rowOk_mk (c := 1) sl_49 (by kernel_rfl) rfl (by decide)
theorem ty_58 : TyOk Tryz.prog Un 58 (.list (.named 5)) := tyOk_mk (c := 1) (by kernel_rfl) rfl Tryz.underlying58 rfl
theorem sl_51 : SlOk Tryz.prog Un 51 58 (.list (.named 5)) := ⟨Tryz.underlying51, ty_58⟩
theorem row_51 : RowOk Tryz.prog Un 51 58 (.list (.named 5)) 24 := rowOk_mk (c := 1) sl_51 (by kernel_rfl) rfl (by decide)
theorem ty_61 : TyOk Tryz.prog Un 61 (.named 5) := tyOk_mk (c := 4) (by kernel_rfl) rfl Tryz.underlying61 rfl
theorem sl_55 : SlOk Tryz.prog Un 55 61 (.named 5) := ⟨Tryz.underlying55, ty_61⟩
theorem row_55 : RowOk Tryz.prog Un 55 61 (.named 5) 56 := rowOk_mk (c := 4) sl_55 (by kernel_rfl) rfl (by decide)
theorem ty_107 : TyOk Tryz.prog Un 107 (.named 5) := tyOk_mk (c := 4) (by kernel_rfl) rfl Tryz.underlying107 rfl
theorem sl_58 : SlOk Tryz.prog Un 58 107 (.named 5) := ⟨Tryz.underlying58, ty_107⟩
theorem row_58 : RowOk Tryz.prog Un 58 107 (.named 5) 56 := rowOk_mk (c := 4) sl_58 (by kernel_rfl) rfl (by decide)
theorem ty_79 : TyOk Tryz.prog Un 79 (.named 3) := tyOk_mk (c := 4) (by kernel_rfl) rfl Tryz.underlying79 rfl
theorem sl_71 : SlOk Tryz.prog Un 71 79 (.named 3) := ⟨Tryz.underlying71, ty_79⟩
theorem row_71 : RowOk Tryz.prog Un 71 79 (.named 3) 56 := rowOk_mk (c := 4) sl_71 (by kernel_rfl) rfl (by decide)
theorem ty_76 : TyOk Tryz.prog Un 76 (.named 7) := tyOk_mk (c := 5) (by kernel_rfl) rfl Tryz.underlying76 rfl
theorem sl_74 : SlOk Tryz.prog Un 74 76 (.named 7) := ⟨Tryz.underlying74, ty_76⟩
theorem row_74 : RowOk Tryz.prog Un 74 76 (.named 7) 64 := rowOk_mk (c := 5) sl_74 (by kernel_rfl) rfl (by decide)
theorem sl_87 : SlOk Tryz.prog Un 87 32 .err := ⟨Tryz.underlying87, ty_32⟩
theorem row_87 : RowOk Tryz.prog Un 87 32 .err 16 := rowOk_mk (c := 1) sl_87 (by kernel_rfl) rfl (by decide)
theorem ty_5 : TyOk Tryz.prog Un 5 (.int .u8) := tyOk_mk (c := 1) (by kernel_rfl) rfl Tryz.underlying5 rfl
theorem sl_102 : SlOk Tryz.prog Un 102 5 (.int .u8) := ⟨Tryz.underlying102, ty_5⟩
theorem row_102 : RowOk Tryz.prog Un 102 5 (.int .u8) 1 := rowOk_mk (c := 1) sl_102 (by kernel_rfl) rfl (by decide)
theorem sl_170 : SlOk Tryz.prog Un 170 30 (.list .str) := ⟨Tryz.underlying170, ty_30⟩
theorem row_170 : RowOk Tryz.prog Un 170 30 (.list .str) 24 := rowOk_mk (c := 1) sl_170 (by kernel_rfl) rfl (by decide)
theorem sl_22 : SlOk Tryz.prog Un 22 68 (.named 3) := ⟨Tryz.underlying22, ty_68⟩
theorem ty_70 : TyOk Tryz.prog Un 70 (.named 4) := tyOk_mk (c := 2) (by kernel_rfl) rfl Tryz.underlying70 rfl
theorem sl_23 : SlOk Tryz.prog Un 23 70 (.named 4) := ⟨Tryz.underlying23, ty_70⟩
theorem ty_73 : TyOk Tryz.prog Un 73 (.named 6) := tyOk_mk (c := 1) (by kernel_rfl) rfl Tryz.underlying73 rfl
theorem ty_118 : TyOk Tryz.prog Un 118 (.named 13) := tyOk_mk (c := 3) (by kernel_rfl) rfl Tryz.underlying118 rfl
theorem ty2_105 : TyOk Tryz.prog Un 105 (.arr 2 .bool) := tyOk_mk (c := 2) (by kernel_rfl) rfl Tryz.underlying105 rfl
theorem ty2_112 : TyOk Tryz.prog Un 112 (.arr 1 .bool) := tyOk_mk (c := 1) (by kernel_rfl) rfl Tryz.underlying112 rfl
theorem z8_5 : ∃ i, Tryz.prog.info? 5 = some i ∧ i.zero = some (.int .u8 0) := z8_mk (by kernel_rfl)
theorem zv_68 : ZeroOk Tryz.prog Un 68 (.named 3) ((T_env_Var.mk [] [] 0 false) : T_env_Var) := zeroOk_mk (v := (.agg #[.string ByteArray.empty, .slice none 0 0, .int .i64 0, .bool false])) (by kernel_rfl) fun _ _ _ => ⟨_, (.named _ _ (.pair rd_str0 (.pair (.lnil _) (.pair (.int _ _) (.pair (.bool _) .unit))))), rfl⟩
noncomputable def TB : Tab Un where
  un := Tryz.prog.underlying
  ty := [(3, .int .i64), (5, .int .u8), (9, .str), (23, .list (.named 4)), (30, .list .str), (32, .err), (55, .list (.named 5)), (58, .list (.named 5)), (61, .named 5), (68, .named 3), (70, .named 4), (71, .list (.named 3)), (73, .named 6), (76, .named 7), (79, .named 3), (84, .named 4), (107, .named 5), (118, .named 13), (26, .bool), (110, .bool), (105, .arr 2 .bool), (112, .arr 1 .bool)]
  sl := [(22, 68, .named 3), (23, 70, .named 4), (30, 9, .str), (37, 84, .named 4), (49, 55, .list (.named 5)), (51, 58, .list (.named 5)), (55, 61, .named 5), (58, 107, .named 5), (71, 79, .named 3), (74, 76, .named 7), (87, 32, .err), (102, 5, .int .u8), (170, 30, .list .str)]
  fd := [(61, 0, 0, .int .i64), (61, 1, 1, .str), (61, 2, 2, .str), (61, 3, 3, .str), (68, 0, 0, .str), (68, 1, 1, .list .str), (68, 2, 2, .int .i64), (70, 0, 0, .str), (70, 1, 1, .str), (73, 0, 0, .list (.named 3)), (76, 1, 1, .named 3), (79, 0, 0, .str), (79, 1, 1, .list .str), (79, 2, 2, .int .i64), (84, 0, 0, .str), (84, 1, 1, .str), (105, 0, 0, .bool), (105, 1, 1, .list (.named 4)), (107, 0, 0, .int .i64), (107, 1, 1, .str), (107, 2, 2, .str), (107, 3, 3, .str), (112, 0, 0, .bool), (118, 0, 0, .str), (118, 1, 1, .int .i64), (118, 2, 2, .err)]
  ro := [(30, 9, .str, 16), (37, 84, .named 4, 32), (49, 55, .list (.named 5), 24), (51, 58, .list (.named 5), 24), (55, 61, .named 5, 56), (58, 107, .named 5, 56), (71, 79, .named 3, 56), (74, 76, .named 7, 64), (87, 32, .err, 16), (102, 5, .int .u8, 1), (170, 30, .list .str, 24)]
  mp := [(110, 9, 68)]
  zd := [(68, .p (.named 3) ((T_env_Var.mk [] [] 0 false) : T_env_Var))]
  az := [(61, [.p (.int .i64) (0 : Int), .p .str ([] : List UInt8), .p .str ([] : List UInt8), .p .str ([] : List UInt8)]), (68, [.p .str ([] : List UInt8), .p (.list .str) ([] : List (List UInt8)), .p (.int .i64) (0 : Int), .p .bool false]), (70, [.p .str ([] : List UInt8), .p .str ([] : List UInt8)]), (76, [.p (.int .i64) (0 : Int), .p .str ([] : List UInt8), .p (.list .str) ([] : List (List UInt8)), .p (.int .i64) (0 : Int), .p .bool false]), (79, [.p .str ([] : List UInt8), .p (.list .str) ([] : List (List UInt8)), .p (.int .i64) (0 : Int), .p .bool false]), (84, [.p .str ([] : List UInt8), .p .str ([] : List UInt8)]), (107, [.p (.int .i64) (0 : Int), .p .str ([] : List UInt8), .p .str ([] : List UInt8), .p .str ([] : List UInt8)])]
  bz := [(61, [.p (.int .i64) (0 : Int), .p .str ([] : List UInt8), .p .str ([] : List UInt8), .p .str ([] : List UInt8)], [(0, 1, .int .i64), (1, 1, .str), (2, 1, .str), (3, 1, .str)]), (68, [.p .str ([] : List UInt8), .p (.list .str) ([] : List (List UInt8)), .p (.int .i64) (0 : Int), .p .bool false], [(0, 1, .str), (1, 1, .list .str), (2, 1, .int .i64), (3, 1, .bool)]), (73, [.p (.list (.named 3)) ([] : List T_env_Var)], [(0, 1, .list (.named 3))]), (76, [.p (.int .i64) (0 : Int), .p .str ([] : List UInt8), .p (.list .str) ([] : List (List UInt8)), .p (.int .i64) (0 : Int), .p .bool false], [(0, 1, .int .i64), (1, 4, .named 3)]), (105, [.lit (.pointer none), .p (.list (.named 4)) ([] : List T_expand_Output)], [(0, 1, .bool), (1, 1, .list (.named 4))]), (107, [.p (.int .i64) (0 : Int), .p .str ([] : List UInt8), .p .str ([] : List UInt8), .p .str ([] : List UInt8)], [(0, 1, .int .i64), (1, 1, .str), (2, 1, .str), (3, 1, .str)]), (112, [.lit (.map none)], [(0, 1, .bool)]), (118, [.p .str ([] : List UInt8), .p (.int .i64) (0 : Int), .p .err (0 : Nat)], [(0, 1, .str), (1, 1, .int .i64), (2, 1, .err)])]
  hb := [6, 7, 8, 9, 10, 11, 12, 13, 14, 15, 17, 22, 23, 24, 25, 26, 27, 28, 29, 30, 31, 32, 33, 34, 35, 36, 37, 38, 39, 40, 44, 45, 46, 47, 48, 49, 50, 51, 52, 53, 54, 55, 64, 65, 66, 67, 68, 69, 70, 71, 72, 73, 74, 75, 76, 77, 78, 79, 80, 81, 82, 83, 84, 96, 97, 98, 99, 100, 101, 102, 103, 104, 105, 107, 108, 109, 110, 111, 112, 113, 114, 115, 120, 124, 128, 129, 130, 131, 132, 133, 134, 139, 140, 141, 142, 143, 146, 147, 159, 160, 179, 180]
theorem TBok : TbOk Tryz.prog Un TB where
  un := fun _ _ h => h
  ty := (.c ty_3 (.c ty_5 (.c ty_9 (.c ty_23 (.c ty_30 (.c ty_32 (.c ty_55 (.c ty_58 (.c ty_61 (.c ty_68 (.c ty_70 (.c ty_71 (.c ty_73 (.c ty_76 (.c ty_79 (.c ty_84 (.c ty_107 (.c ty_118 (.c ty1_26 (.c ty1_110 (.c ty2_105 (.c ty2_112 AllP.z))))))))))))))))))))))
  sl := (.c sl_22 (.c sl_23 (.c sl_30 (.c sl_37 (.c sl_49 (.c sl_51 (.c sl_55 (.c sl_58 (.c sl_71 (.c sl_74 (.c sl_87 (.c sl_102 (.c sl_170 AllP.z)))))))))))))
  fd := (.c ⟨_, fd_61_0⟩ (.c ⟨_, fd_61_1⟩ (.c ⟨_, fd_61_2⟩ (.c ⟨_, fd_61_3⟩ (.c ⟨_, fd_68_0⟩ (.c ⟨_, fd_68_1⟩ (.c ⟨_, fd_68_2⟩ (.c ⟨_, fd_70_0⟩ (.c ⟨_, fd_70_1⟩ (.c ⟨_, fd_73_0⟩ (.c ⟨_, fd_76_1⟩ (.c ⟨_, fd_79_0⟩ (.c ⟨_, fd_79_1⟩ (.c ⟨_, fd_79_2⟩ (.c ⟨_, fd_84_0⟩ (.c ⟨_, fd_84_1⟩ (.c ⟨_, fd_105_0⟩ (.c ⟨_, fd_105_1⟩ (.c ⟨_, fd_107_0⟩ (.c ⟨_, fd_107_1⟩ (.c ⟨_, fd_107_2⟩ (.c ⟨_, fd_107_3⟩ (.c ⟨_, fd_112_0⟩ (.c ⟨_, fd_118_0⟩ (.c ⟨_, fd_118_1⟩ (.c ⟨_, fd_118_2⟩ AllP.z))))))))))))))))))))))))))
  ro := (.c row_30 (.c row_37 (.c row_49 (.c row_51 (.c row_55 (.c row_58 (.c row_71 (.c row_74 (.c row_87 (.c row_102 (.c row_170 AllP.z)))))))))))
  mp := (.c map_110 AllP.z)
  zd := (.c zv_68 AllP.z)
  az := (.c az_61 (.c az_68 (.c az_70 (.c az_76 (.c az_79 (.c az_84 (.c az_107 AllP.z)))))))
  bz := (.c ⟨_, _, lays_61, (.data (fun _ _ _ => .int _ _) (.data (fun _ _ _ => rd_str0) (.data (fun _ _ _ => rd_str0) (.data (fun _ _ _ => rd_str0) .nil)))), by kernel_rfl⟩ (.c ⟨_, _, lays_68, (.data (fun _ _ _ => rd_str0) (.data (fun _ _ _ => .lnil _) (.data (fun _ _ _ => .int _ _) (.data (fun _ _ _ => .bool _) .nil)))), by kernel_rfl⟩ (.c ⟨_, _, lays_73, (.data (fun _ _ _ => .lnil _) .nil), by kernel_rfl⟩ (.c ⟨_, _, lays_76, (.data (fun _ _ _ => .int _ _) (.data (fun _ _ _ => rd_str0) (.data (fun _ _ _ => .lnil _) (.data (fun _ _ _ => .int _ _) (.data (fun _ _ _ => .bool _) .nil))))), by kernel_rfl⟩ (.c ⟨_, _, lays_105, (.lit rfl (.data (fun _ _ _ => .lnil _) .nil)), by kernel_rfl⟩ (.c ⟨_, _, lays_107, (.data (fun _ _ _ => .int _ _) (.data (fun _ _ _ => rd_str0) (.data (fun _ _ _ => rd_str0) (.data (fun _ _ _ => rd_str0) .nil)))), by kernel_rfl⟩ (.c ⟨_, _, lays_112, (.lit rfl .nil), by kernel_rfl⟩ (.c ⟨_, _, lays_118, (.data (fun _ _ _ => rd_str0) (.data (fun _ _ _ => .int _ _) (.data (fun _ _ _ => .err0) .nil))), by kernel_rfl⟩ AllP.z))))))))
  hb := (.c hb_6 (.c hb_7 (.c hb_8 (.c hb_9 (.c hb_10 (.c hb_11 (.c hb_12 (.c hb_13 (.c hb_14 (.c hb_15 (.c hb_17 (.c hb_22 (.c hb_23 (.c hb_24 (.c hb_25 (.c hb_26 (.c hb_27 (.c hb_28 (.c hb_29 (.c hb_30 (.c hb_31 (.c hb_32 (.c hb_33 (.c hb_34 (.c hb_35 (.c hb_36 (.c hb_37 (.c hb_38 (.c hb_39 (.c hb_40 (.c hb_44 (.c hb_45 (.c hb_46 (.c hb_47 (.c hb_48 (.c hb_49 (.c hb_50 (.c hb_51 (.c hb_52 (.c hb_53 (.c hb_54 (.c hb_55 (.c hb_64 (.c hb_65 (.c hb_66 (.c hb_67 (.c hb_68 (.c hb_69 (.c hb_70 (.c hb_71 (.c hb_72 (.c hb_73 (.c hb_74 (.c hb_75 (.c hb_76 (.c hb_77 (.c hb_78 (.c hb_79 (.c hb_80 (.c hb_81 (.c hb_82 (.c hb_83 (.c hb_84 (.c hb_96 (.c hb_97 (.c hb_98 (.c hb_99 (.c hb_100 (.c hb_101 (.c hb_102 (.c hb_103 (.c hb_104 (.c hb_105 (.c hb_107 (.c hb_108 (.c hb_109 (.c hb_110 (.c hb_111 (.c hb_112 (.c hb_113 (.c hb_114 (.c hb_115 (.c hb_120 (.c hb_124 (.c hb_128 (.c hb_129 (.c hb_130 (.c hb_131 (.c hb_132 (.c hb_133 (.c hb_134 (.c hb_139 (.c hb_140 (.c hb_141 (.c hb_142 (.c hb_143 (.c hb_146 (.c hb_147 (.c hb_159 (.c hb_160 (.c hb_179 (.c hb_180 AllP.z))))))))))))))))))))))))))))))))))))))))))))))))))))))))))))))))))))))))))))))))))))))))))))))))))))))
theorem rSC {O : Out} {B : Base} {id N : Nat} {ops : Array Oper} {st : St Un} {Q : PostQ Un} (x : RX Un O Tryz.prog ops) (ts ns : List Nat) (hN : B.n = N) (h1 : okS TB x st N = true) (h2 : obL TB x st = obR TB x st)  {st2 : St Un} (hcv : Conv Un O (nxS TB x st ts ns) st2) (hQ : Q .normal st2) : WpC Un O Tryz.prog B (.region id ops false) st Q := WpC.rS TBok x ts ns hN h1 h2 rfl hcv hQ
theorem rS {O : Out} {B : Base} {id N : Nat} {ops : Array Oper} {st : St Un} {Q : PostQ Un} (x : RX Un O Tryz.prog ops) (ts ns : List Nat) (hN : B.n = N) (h1 : okS TB x st N = true) (h2 : obL TB x st = obR TB x st)  (hQ : Q .normal (nxS TB x st ts ns)) : WpC Un O Tryz.prog B (.region id ops false) st Q := WpC.rS TBok x ts ns hN h1 h2 rfl (Conv.refl _) hQ
theorem rA {O : Out} {B : Base} {id N : Nat} {ops : Array Oper} {st : St Un} {Q : PostQ Un} (x : RX Un O Tryz.prog ops) (ts ns : List Nat) (hN : B.n = N) (h1 : okS TB x st N = true) (h2 : obL TB x st = obR TB x st) (h4 : raS TB x st = true)  (hQ : Q .normal (nxS TB x st ts ns)) : WpC Un O Tryz.prog B (.region id ops true) st Q := WpC.rA TBok mixed x ts ns hN h1 h2 h4 rfl (Conv.refl _) hQ
theorem cS {O : Out} {st : St Un} (l : List (CV Un O)) (h1 : cvOk l st = true) (h2 : cvL l st = cvR l st) : Conv Un O st (cvN l st) := Conv.S h1 h2
theorem tS : type_of% (@WpC.tS Un) := @WpC.tS Un
theorem eR {O : Out} {fn : Func} {c : CSpec Un} {st : St Un} (h1 : (resD TB st fn.results.toList).map resOf = some c.r) (h2 : (c.bs'.map fun x => lookA st.hp x.1) = c.bs'.map fun x => some x.2) : Go.AM.Ends Un O Tryz.prog fn c .ret st := ends_retS TBok h1 h2
theorem eN {O : Out} {fn : Func} {c : CSpec Un} {st : St Un} (h1 : (resD TB st fn.results.toList).map resOf = some c.r) (h2 : (c.bs'.map fun x => lookA st.hp x.1) = c.bs'.map fun x => some x.2) : Go.AM.Ends Un O Tryz.prog fn c .normal st := ends_normalS TBok h1 h2

theorem cvR : type_of% (@Conv.refl Un) := @Conv.refl Un
theorem cvK : type_of% (@Conv.keep Un) := @Conv.keep Un
theorem sqJ : type_of% (@WpC.seqJ Un) := @WpC.seqJ Un
theorem tnU : type_of% (@thenQ_normal Un) := @thenQ_normal Un
end Go.Proofs.YtldepagjdbcmgaaGreatDoor
