/- A part of the proof of a given law: IPTy. Own work, printed in part by a program of mine. -/
import Derived.Test.YtldepagjdbcmgaaGreatDoorK25AmR7
import Derived.Test.YtldepagjdbcmgaaGreatDoorProg
namespace Go.Proofs.YtldepagjdbcmgaaGreatDoor
open Go Go.AM
set_option linter.unusedVariables false
set_option linter.unusedSimpArgs false
set_option maxRecDepth 100000
set_option maxHeartbeats 4000000
structure T_runtime_boundsError where
  f_x : Int
  f_y : Int
  f_signed : Bool
  f_code : Int
  deriving Inhabited
structure T_runtime_errorAddressString where
  f_msg : List UInt8
  f_addr : Int
  deriving Inhabited
structure T_env_Var where
  f_Name : List UInt8
  f_Words : List (List UInt8)
  f_Level : Int
  f_Hidden : Bool
  deriving Inhabited
structure T_expand_Output where
  f_Command : List UInt8
  f_Text : List UInt8
  deriving Inhabited
structure T_lex_Piece where
  f_Kind : Int
  f_Text : List UInt8
  f_From : List UInt8
  f_To : List UInt8
  deriving Inhabited
structure T_millwrightref14_Env where
  f_All : List T_env_Var
  deriving Inhabited
structure T_millwrightlaw14_Act where
  f_Kind : Int
  f_Var : T_env_Var
  deriving Inhabited
structure T_attr_Attr where
  f_Flags : Int
  f_Prog : List UInt8
  deriving Inhabited
structure T_load_Rule where
  f_Targets : List (List UInt8)
  f_Prereqs : List (List UInt8)
  f_Attr : T_attr_Attr
  f_Recipe : List UInt8
  f_File : List UInt8
  f_Line : Int
  deriving Inhabited
structure T_inst_Inst where
  f_Rule : Int
  f_Stem : List UInt8
  f_Subs : List (List UInt8)
  f_Targets : List (List UInt8)
  f_Prereqs : List (List UInt8)
  deriving Inhabited
structure T_lex_reader where
  f_s : List UInt8
  f_at : Int
  f_err : Nat
  deriving Inhabited
structure T_table_Table where
  f_rules : List T_load_Rule
  f_kinds : List Int
  deriving Inhabited
structure T_load_Fault where
  f_File : List UInt8
  f_Line : Int
  f_Err : Nat
  deriving Inhabited
structure T_prog_Instr where
  f_Op : Int
  f_X : Int
  f_Y : Int
  f_Set : List Int
  deriving Inhabited
inductive T_rex_Node where
  | mk (f_Kind : Int) (f_Index : Int) (f_Set : List Int) (f_Kids : List T_rex_Node)
def T_rex_Node.f_Kind : T_rex_Node → Int | .mk x0 _ _ _ => x0
def T_rex_Node.f_Index : T_rex_Node → Int | .mk _ x1 _ _ => x1
def T_rex_Node.f_Set : T_rex_Node → List Int | .mk _ _ x2 _ => x2
def T_rex_Node.f_Kids : T_rex_Node → List T_rex_Node | .mk _ _ _ x3 => x3
structure T_rex_parser where
  f_s : List UInt8
  f_at : Int
  f_groups : Int
  f_bad : Bool
  deriving Inhabited
structure T_prog_writer where
  f_code : List T_prog_Instr
  deriving Inhabited
structure T_pike_thread where
  f_at : Int
  f_kept : List Int
  deriving Inhabited
structure T_utf8_acceptRange where
  f_lo : Int
  f_hi : Int
  deriving Inhabited
structure T_reflectlite_ValueError where
  f_Method : List UInt8
  f_Kind : Int
  deriving Inhabited
structure T_errors_errorString where
  f_s : List UInt8
  deriving Inhabited
structure T_abi_UncommonType where
  f_PkgPath : Int
  f_Mcount : Int
  f_Xcount : Int
  f_Moff : Int
  f_blank4 : Int
  deriving Inhabited
structure T_abi_Method where
  f_Name : Int
  f_Mtyp : Int
  f_Ifn : Int
  f_Tfn : Int
  deriving Inhabited
def UnT : Nat → Type := fun n => match n with | 0 => T_runtime_boundsError | 1 => T_runtime_errorAddressString | 2 => Unit | 3 => T_env_Var | 4 => T_expand_Output | 5 => T_lex_Piece | 6 => T_millwrightref14_Env | 7 => T_millwrightlaw14_Act | 8 => T_attr_Attr | 9 => T_load_Rule | 10 => T_inst_Inst | 11 => Unit | 12 => Unit | 13 => T_lex_reader | 14 => T_table_Table | 15 => T_load_Fault | 16 => Unit | 17 => T_prog_Instr | 18 => T_rex_Node | 19 => Unit | 20 => T_rex_parser | 21 => T_prog_writer | 22 => T_pike_thread | 23 => Unit | 24 => T_utf8_acceptRange | 25 => Unit | 26 => Unit | 27 => Unit | 28 => T_reflectlite_ValueError | 29 => T_errors_errorString | 30 => T_abi_UncommonType | 31 => T_abi_Method | _ + 32 => Unit
def UnB : Nat → Ty := fun n => match n with | 0 => (.pair (.int .i64) (.pair (.int .i64) (.pair .bool (.pair (.int .u8) .unit)))) | 1 => (.pair .str (.pair (.int .u64) .unit)) | 2 => .unit | 3 => (.pair .str (.pair (.list .str) (.pair (.int .i64) (.pair .bool .unit)))) | 4 => (.pair .str (.pair .str .unit)) | 5 => (.pair (.int .i64) (.pair .str (.pair .str (.pair .str .unit)))) | 6 => (.pair (.list (.named 3)) .unit) | 7 => (.pair (.int .i64) (.pair (.named 3) .unit)) | 8 => (.pair (.int .i64) (.pair .str .unit)) | 9 => (.pair (.list .str) (.pair (.list .str) (.pair (.named 8) (.pair .str (.pair .str (.pair (.int .i64) .unit)))))) | 10 => (.pair (.int .i64) (.pair .str (.pair (.list .str) (.pair (.list .str) (.pair (.list .str) .unit))))) | 11 => .unit | 12 => .unit | 13 => (.pair .str (.pair (.int .i64) (.pair .err .unit))) | 14 => (.pair (.list (.named 9)) (.pair (.list (.int .i64)) .unit)) | 15 => (.pair .str (.pair (.int .i64) (.pair .err .unit))) | 16 => .unit | 17 => (.pair (.int .i64) (.pair (.int .i64) (.pair (.int .i64) (.pair (.arr 4 (.int .u64)) .unit)))) | 18 => (.pair (.int .i64) (.pair (.int .i64) (.pair (.arr 4 (.int .u64)) (.pair (.list (.named 18)) .unit)))) | 19 => .unit | 20 => (.pair .str (.pair (.int .i64) (.pair (.int .i64) (.pair .bool .unit)))) | 21 => (.pair (.list (.named 17)) .unit) | 22 => (.pair (.int .i64) (.pair (.arr 20 (.int .i64)) .unit)) | 23 => .unit | 24 => (.pair (.int .u8) (.pair (.int .u8) .unit)) | 25 => .unit | 26 => .unit | 27 => .unit | 28 => (.pair .str (.pair (.int .u8) .unit)) | 29 => (.pair .str .unit) | 30 => (.pair (.int .i32) (.pair (.int .u16) (.pair (.int .u16) (.pair (.int .u32) (.pair (.int .u32) .unit))))) | 31 => (.pair (.int .i32) (.pair (.int .i32) (.pair (.int .i32) (.pair (.int .i32) .unit)))) | _ + 32 => .unit
def UnOut : (n : Nat) → UnT n → (UnB n).den UnT := fun n => match n with | 0 => fun x => (x.f_x, x.f_y, x.f_signed, x.f_code, ()) | 1 => fun x => (x.f_msg, x.f_addr, ()) | 2 => fun _ => () | 3 => fun x => (x.f_Name, x.f_Words, x.f_Level, x.f_Hidden, ()) | 4 => fun x => (x.f_Command, x.f_Text, ()) | 5 => fun x => (x.f_Kind, x.f_Text, x.f_From, x.f_To, ()) | 6 => fun x => (x.f_All, ()) | 7 => fun x => (x.f_Kind, x.f_Var, ()) | 8 => fun x => (x.f_Flags, x.f_Prog, ()) | 9 => fun x => (x.f_Targets, x.f_Prereqs, x.f_Attr, x.f_Recipe, x.f_File, x.f_Line, ()) | 10 => fun x => (x.f_Rule, x.f_Stem, x.f_Subs, x.f_Targets, x.f_Prereqs, ()) | 11 => fun _ => () | 12 => fun _ => () | 13 => fun x => (x.f_s, x.f_at, x.f_err, ()) | 14 => fun x => (x.f_rules, x.f_kinds, ()) | 15 => fun x => (x.f_File, x.f_Line, x.f_Err, ()) | 16 => fun _ => () | 17 => fun x => (x.f_Op, x.f_X, x.f_Y, x.f_Set, ()) | 18 => fun x => (x.f_Kind, x.f_Index, x.f_Set, x.f_Kids, ()) | 19 => fun _ => () | 20 => fun x => (x.f_s, x.f_at, x.f_groups, x.f_bad, ()) | 21 => fun x => (x.f_code, ()) | 22 => fun x => (x.f_at, x.f_kept, ()) | 23 => fun _ => () | 24 => fun x => (x.f_lo, x.f_hi, ()) | 25 => fun _ => () | 26 => fun _ => () | 27 => fun _ => () | 28 => fun x => (x.f_Method, x.f_Kind, ()) | 29 => fun x => (x.f_s, ()) | 30 => fun x => (x.f_PkgPath, x.f_Mcount, x.f_Xcount, x.f_Moff, x.f_blank4, ()) | 31 => fun x => (x.f_Name, x.f_Mtyp, x.f_Ifn, x.f_Tfn, ()) | _ + 32 => fun _ => ()
def UnInn : (n : Nat) → (UnB n).den UnT → UnT n := fun n => match n with | 0 => fun (x : Int × Int × Bool × Int × Unit) => (T_runtime_boundsError.mk x.1 x.2.1 x.2.2.1 x.2.2.2.1 : T_runtime_boundsError) | 1 => fun (x : (List UInt8) × Int × Unit) => (T_runtime_errorAddressString.mk x.1 x.2.1 : T_runtime_errorAddressString) | 2 => fun _ => () | 3 => fun (x : (List UInt8) × (List (List UInt8)) × Int × Bool × Unit) => (T_env_Var.mk x.1 x.2.1 x.2.2.1 x.2.2.2.1 : T_env_Var) | 4 => fun (x : (List UInt8) × (List UInt8) × Unit) => (T_expand_Output.mk x.1 x.2.1 : T_expand_Output) | 5 => fun (x : Int × (List UInt8) × (List UInt8) × (List UInt8) × Unit) => (T_lex_Piece.mk x.1 x.2.1 x.2.2.1 x.2.2.2.1 : T_lex_Piece) | 6 => fun (x : (List T_env_Var) × Unit) => (T_millwrightref14_Env.mk x.1 : T_millwrightref14_Env) | 7 => fun (x : Int × T_env_Var × Unit) => (T_millwrightlaw14_Act.mk x.1 x.2.1 : T_millwrightlaw14_Act) | 8 => fun (x : Int × (List UInt8) × Unit) => (T_attr_Attr.mk x.1 x.2.1 : T_attr_Attr) | 9 => fun (x : (List (List UInt8)) × (List (List UInt8)) × T_attr_Attr × (List UInt8) × (List UInt8) × Int × Unit) => (T_load_Rule.mk x.1 x.2.1 x.2.2.1 x.2.2.2.1 x.2.2.2.2.1 x.2.2.2.2.2.1 : T_load_Rule) | 10 => fun (x : Int × (List UInt8) × (List (List UInt8)) × (List (List UInt8)) × (List (List UInt8)) × Unit) => (T_inst_Inst.mk x.1 x.2.1 x.2.2.1 x.2.2.2.1 x.2.2.2.2.1 : T_inst_Inst) | 11 => fun _ => () | 12 => fun _ => () | 13 => fun (x : (List UInt8) × Int × Nat × Unit) => (T_lex_reader.mk x.1 x.2.1 x.2.2.1 : T_lex_reader) | 14 => fun (x : (List T_load_Rule) × (List Int) × Unit) => (T_table_Table.mk x.1 x.2.1 : T_table_Table) | 15 => fun (x : (List UInt8) × Int × Nat × Unit) => (T_load_Fault.mk x.1 x.2.1 x.2.2.1 : T_load_Fault) | 16 => fun _ => () | 17 => fun (x : Int × Int × Int × (List Int) × Unit) => (T_prog_Instr.mk x.1 x.2.1 x.2.2.1 x.2.2.2.1 : T_prog_Instr) | 18 => fun (x : Int × Int × (List Int) × (List T_rex_Node) × Unit) => (T_rex_Node.mk x.1 x.2.1 x.2.2.1 x.2.2.2.1 : T_rex_Node) | 19 => fun _ => () | 20 => fun (x : (List UInt8) × Int × Int × Bool × Unit) => (T_rex_parser.mk x.1 x.2.1 x.2.2.1 x.2.2.2.1 : T_rex_parser) | 21 => fun (x : (List T_prog_Instr) × Unit) => (T_prog_writer.mk x.1 : T_prog_writer) | 22 => fun (x : Int × (List Int) × Unit) => (T_pike_thread.mk x.1 x.2.1 : T_pike_thread) | 23 => fun _ => () | 24 => fun (x : Int × Int × Unit) => (T_utf8_acceptRange.mk x.1 x.2.1 : T_utf8_acceptRange) | 25 => fun _ => () | 26 => fun _ => () | 27 => fun _ => () | 28 => fun (x : (List UInt8) × Int × Unit) => (T_reflectlite_ValueError.mk x.1 x.2.1 : T_reflectlite_ValueError) | 29 => fun (x : (List UInt8) × Unit) => (T_errors_errorString.mk x.1 : T_errors_errorString) | 30 => fun (x : Int × Int × Int × Int × Int × Unit) => (T_abi_UncommonType.mk x.1 x.2.1 x.2.2.1 x.2.2.2.1 x.2.2.2.2.1 : T_abi_UncommonType) | 31 => fun (x : Int × Int × Int × Int × Unit) => (T_abi_Method.mk x.1 x.2.1 x.2.2.1 x.2.2.2.1 : T_abi_Method) | _ + 32 => fun _ => ()
def UnW : Nat → Nat := fun n => match n with | 0 => 4 | 1 => 2 | 2 => 0 | 3 => 4 | 4 => 2 | 5 => 4 | 6 => 1 | 7 => 5 | 8 => 2 | 9 => 7 | 10 => 5 | 11 => 0 | 12 => 0 | 13 => 3 | 14 => 2 | 15 => 3 | 16 => 0 | 17 => 7 | 18 => 7 | 19 => 0 | 20 => 4 | 21 => 1 | 22 => 21 | 23 => 0 | 24 => 2 | 25 => 0 | 26 => 0 | 27 => 0 | 28 => 2 | 29 => 1 | 30 => 5 | 31 => 4 | _ + 32 => 0
def UnF : Nat → Bool := fun n => match n with | 0 => true | 1 => true | 2 => true | 3 => false | 4 => true | 5 => true | 6 => false | 7 => false | 8 => true | 9 => false | 10 => false | 11 => true | 12 => true | 13 => true | 14 => false | 15 => true | 16 => true | 17 => true | 18 => false | 19 => true | 20 => true | 21 => false | 22 => true | 23 => true | 24 => true | 25 => true | 26 => true | 27 => true | 28 => true | 29 => true | 30 => true | 31 => true | _ + 32 => true
theorem un_out_inn : ∀ n x, UnOut n (UnInn n x) = x := by
  intro n
  match n with
  | 0 => exact fun _ => rfl
  | 1 => exact fun _ => rfl
  | 2 => exact fun _ => rfl
  | 3 => exact fun _ => rfl
  | 4 => exact fun _ => rfl
  | 5 => exact fun _ => rfl
  | 6 => exact fun _ => rfl
  | 7 => exact fun _ => rfl
  | 8 => exact fun _ => rfl
  | 9 => exact fun _ => rfl
  | 10 => exact fun _ => rfl
  | 11 => exact fun _ => rfl
  | 12 => exact fun _ => rfl
  | 13 => exact fun _ => rfl
  | 14 => exact fun _ => rfl
  | 15 => exact fun _ => rfl
  | 16 => exact fun _ => rfl
  | 17 => exact fun _ => rfl
  | 18 => exact fun _ => rfl
  | 19 => exact fun _ => rfl
  | 20 => exact fun _ => rfl
  | 21 => exact fun _ => rfl
  | 22 => exact fun _ => rfl
  | 23 => exact fun _ => rfl
  | 24 => exact fun _ => rfl
  | 25 => exact fun _ => rfl
  | 26 => exact fun _ => rfl
  | 27 => exact fun _ => rfl
  | 28 => exact fun _ => rfl
  | 29 => exact fun _ => rfl
  | 30 => exact fun _ => rfl
  | 31 => exact fun _ => rfl
  | _ + 32 => exact fun _ => rfl
theorem un_inn_out : ∀ n x, UnInn n (UnOut n x) = x := by
  intro n
  match n with
  | 0 => exact fun x => by cases x; rfl
  | 1 => exact fun x => by cases x; rfl
  | 2 => exact fun _ => rfl
  | 3 => exact fun x => by cases x; rfl
  | 4 => exact fun x => by cases x; rfl
  | 5 => exact fun x => by cases x; rfl
  | 6 => exact fun x => by cases x; rfl
  | 7 => exact fun x => by cases x; rfl
  | 8 => exact fun x => by cases x; rfl
  | 9 => exact fun x => by cases x; rfl
  | 10 => exact fun x => by cases x; rfl
  | 11 => exact fun _ => rfl
  | 12 => exact fun _ => rfl
  | 13 => exact fun x => by cases x; rfl
  | 14 => exact fun x => by cases x; rfl
  | 15 => exact fun x => by cases x; rfl
  | 16 => exact fun _ => rfl
  | 17 => exact fun x => by cases x; rfl
  | 18 => exact fun x => by cases x; rfl
  | 19 => exact fun _ => rfl
  | 20 => exact fun x => by cases x; rfl
  | 21 => exact fun x => by cases x; rfl
  | 22 => exact fun x => by cases x; rfl
  | 23 => exact fun _ => rfl
  | 24 => exact fun x => by cases x; rfl
  | 25 => exact fun _ => rfl
  | 26 => exact fun _ => rfl
  | 27 => exact fun _ => rfl
  | 28 => exact fun x => by cases x; rfl
  | 29 => exact fun x => by cases x; rfl
  | 30 => exact fun x => by cases x; rfl
  | 31 => exact fun x => by cases x; rfl
  | _ + 32 => exact fun _ => rfl
theorem un_wd : ∀ n, (UnB n).width UnW = UnW n := by
  intro n
  match n with
  | 0 => rfl
  | 1 => rfl
  | 2 => rfl
  | 3 => rfl
  | 4 => rfl
  | 5 => rfl
  | 6 => rfl
  | 7 => rfl
  | 8 => rfl
  | 9 => rfl
  | 10 => rfl
  | 11 => rfl
  | 12 => rfl
  | 13 => rfl
  | 14 => rfl
  | 15 => rfl
  | 16 => rfl
  | 17 => rfl
  | 18 => rfl
  | 19 => rfl
  | 20 => rfl
  | 21 => rfl
  | 22 => rfl
  | 23 => rfl
  | 24 => rfl
  | 25 => rfl
  | 26 => rfl
  | 27 => rfl
  | 28 => rfl
  | 29 => rfl
  | 30 => rfl
  | 31 => rfl
  | _ + 32 => rfl
theorem un_fl : ∀ n, UnF n = true → (UnB n).flat UnF = true := by
  intro n
  match n with
  | 0 => exact fun h => by first | rfl | cases h
  | 1 => exact fun h => by first | rfl | cases h
  | 2 => exact fun h => by first | rfl | cases h
  | 3 => exact fun h => by first | rfl | cases h
  | 4 => exact fun h => by first | rfl | cases h
  | 5 => exact fun h => by first | rfl | cases h
  | 6 => exact fun h => by first | rfl | cases h
  | 7 => exact fun h => by first | rfl | cases h
  | 8 => exact fun h => by first | rfl | cases h
  | 9 => exact fun h => by first | rfl | cases h
  | 10 => exact fun h => by first | rfl | cases h
  | 11 => exact fun h => by first | rfl | cases h
  | 12 => exact fun h => by first | rfl | cases h
  | 13 => exact fun h => by first | rfl | cases h
  | 14 => exact fun h => by first | rfl | cases h
  | 15 => exact fun h => by first | rfl | cases h
  | 16 => exact fun h => by first | rfl | cases h
  | 17 => exact fun h => by first | rfl | cases h
  | 18 => exact fun h => by first | rfl | cases h
  | 19 => exact fun h => by first | rfl | cases h
  | 20 => exact fun h => by first | rfl | cases h
  | 21 => exact fun h => by first | rfl | cases h
  | 22 => exact fun h => by first | rfl | cases h
  | 23 => exact fun h => by first | rfl | cases h
  | 24 => exact fun h => by first | rfl | cases h
  | 25 => exact fun h => by first | rfl | cases h
  | 26 => exact fun h => by first | rfl | cases h
  | 27 => exact fun h => by first | rfl | cases h
  | 28 => exact fun h => by first | rfl | cases h
  | 29 => exact fun h => by first | rfl | cases h
  | 30 => exact fun h => by first | rfl | cases h
  | 31 => exact fun h => by first | rfl | cases h
  | _ + 32 => exact fun _ => rfl
def Un : Univ where
  T := UnT
  body := UnB
  out := UnOut
  inn := UnInn
  out_inn := un_out_inn
  inn_out := un_inn_out
  wd := UnW
  wd_ok := un_wd
  fl := UnF
  fl_ok := un_fl
theorem mixed : Tryz.prog.follows .mixedOrders = true := by kernel_rfl
theorem az_96 : ∃ v cs, (Tryz.prog.info? 96).bind (·.zero) = some v ∧ v.cells.toList = cs ∧ ZU Un [.p (.list .str) ([] : List (List UInt8)), .p (.list .str) ([] : List (List UInt8)), .p (.int .i64) (0 : Int), .p .str ([] : List UInt8), .p .str ([] : List UInt8), .p .str ([] : List UInt8), .p (.int .i64) (0 : Int)] cs := ⟨(.agg #[.slice none 0 0, .slice none 0 0, .int .i64 0, .string ByteArray.empty, .string ByteArray.empty, .string ByteArray.empty, .int .i64 0]), _, by kernel_rfl, rfl, (.data (fun _ _ _ => .lnil _) (.data (fun _ _ _ => .lnil _) (.data (fun _ _ _ => .int _ _) (.data (fun _ _ _ => rd_str0) (.data (fun _ _ _ => rd_str0) (.data (fun _ _ _ => rd_str0) (.data (fun _ _ _ => .int _ _) .nil)))))))⟩
theorem az_99 : ∃ v cs, (Tryz.prog.info? 99).bind (·.zero) = some v ∧ v.cells.toList = cs ∧ ZU Un [.p (.int .i64) (0 : Int), .p .str ([] : List UInt8), .p (.list .str) ([] : List (List UInt8)), .lit (.slice none 0 0), .p (.list .str) ([] : List (List UInt8))] cs := ⟨(.agg #[.int .i64 0, .string ByteArray.empty, .slice none 0 0, .slice none 0 0, .slice none 0 0]), _, by kernel_rfl, rfl, (.data (fun _ _ _ => .int _ _) (.data (fun _ _ _ => rd_str0) (.data (fun _ _ _ => .lnil _) (.lit rfl (.data (fun _ _ _ => .lnil _) .nil)))))⟩
theorem ty_3 : TyOk Tryz.prog Un 3 (.int .i64) := tyOk_mk (c := 1) (by kernel_rfl) rfl Tryz.underlying3 rfl
theorem ty_9 : TyOk Tryz.prog Un 9 .str := tyOk_mk (c := 1) (by kernel_rfl) rfl Tryz.underlying9 rfl
theorem eqf_94 : ∀ fs, Tryz.prog.underlying 94 = some (.struct fs) → EqF Tryz.prog Un fs.toList 0 (Un.body 8) := fun fs h => by
  rw [Tryz.underlying94] at h
  cases h
  exact (.cons (by decide) rfl ty_3 (.int Tryz.underlying3) (.cons (by decide) rfl ty_9 (.str Tryz.underlying9) .nil))
theorem fd_94_0 : FdOk Tryz.prog Un 94 0 0 3 (.int .i64) := ⟨⟨_, _, Tryz.underlying94, rfl, rfl, rfl⟩, ty_3⟩
theorem ty_30 : TyOk Tryz.prog Un 30 (.list .str) := tyOk_mk (c := 1) (by kernel_rfl) rfl Tryz.underlying30 rfl
theorem fd_96_0 : FdOk Tryz.prog Un 96 0 0 30 (.list .str) := ⟨⟨_, _, Tryz.underlying96, rfl, rfl, rfl⟩, ty_30⟩
theorem fd_96_1 : FdOk Tryz.prog Un 96 1 1 30 (.list .str) := ⟨⟨_, _, Tryz.underlying96, rfl, rfl, rfl⟩, ty_30⟩
theorem ty_94 : TyOk Tryz.prog Un 94 (.named 8) := tyOk_mk (c := 2) (by kernel_rfl) rfl Tryz.underlying94 rfl
theorem fd_96_2 : FdOk Tryz.prog Un 96 2 2 94 (.named 8) := ⟨⟨_, _, Tryz.underlying96, rfl, rfl, rfl⟩, ty_94⟩
theorem fd_96_3 : FdOk Tryz.prog Un 96 3 4 9 .str := ⟨⟨_, _, Tryz.underlying96, rfl, rfl, rfl⟩, ty_9⟩
theorem fd_96_4 : FdOk Tryz.prog Un 96 4 5 9 .str := ⟨⟨_, _, Tryz.underlying96, rfl, rfl, rfl⟩, ty_9⟩
theorem fd_96_5 : FdOk Tryz.prog Un 96 5 6 3 (.int .i64) := ⟨⟨_, _, Tryz.underlying96, rfl, rfl, rfl⟩, ty_3⟩
theorem fd_99_0 : FdOk Tryz.prog Un 99 0 0 3 (.int .i64) := ⟨⟨_, _, Tryz.underlying99, rfl, rfl, rfl⟩, ty_3⟩
theorem fd_99_1 : FdOk Tryz.prog Un 99 1 1 9 .str := ⟨⟨_, _, Tryz.underlying99, rfl, rfl, rfl⟩, ty_9⟩
theorem fd_99_3 : FdOk Tryz.prog Un 99 3 3 30 (.list .str) := ⟨⟨_, _, Tryz.underlying99, rfl, rfl, rfl⟩, ty_30⟩
theorem fd_99_4 : FdOk Tryz.prog Un 99 4 4 30 (.list .str) := ⟨⟨_, _, Tryz.underlying99, rfl, rfl, rfl⟩, ty_30⟩
theorem ty_97 : TyOk Tryz.prog Un 97 (.list (.named 9)) := tyOk_mk (c := 1) (by kernel_rfl) rfl Tryz.underlying97 rfl
theorem fd_130_0 : FdOk Tryz.prog Un 130 0 0 97 (.list (.named 9)) := ⟨⟨_, _, Tryz.underlying130, rfl, rfl, rfl⟩, ty_97⟩
theorem ty_128 : TyOk Tryz.prog Un 128 (.list (.int .i64)) := tyOk_mk (c := 1) (by kernel_rfl) rfl Tryz.underlying128 rfl
theorem fd_130_1 : FdOk Tryz.prog Un 130 1 1 128 (.list (.int .i64)) := ⟨⟨_, _, Tryz.underlying130, rfl, rfl, rfl⟩, ty_128⟩
theorem hb_15 : HasBody Tryz.prog 15 := ⟨⟨_, Tryz.func15, by kernel_rfl, rfl⟩⟩
theorem hb_16 : HasBody Tryz.prog 16 := ⟨⟨_, Tryz.func16, by kernel_rfl, rfl⟩⟩
theorem hb_17 : HasBody Tryz.prog 17 := ⟨⟨_, Tryz.func17, by kernel_rfl, rfl⟩⟩
theorem hb_18 : HasBody Tryz.prog 18 := ⟨⟨_, Tryz.func18, by kernel_rfl, rfl⟩⟩
theorem hb_19 : HasBody Tryz.prog 19 := ⟨⟨_, Tryz.func19, by kernel_rfl, rfl⟩⟩
theorem hb_20 : HasBody Tryz.prog 20 := ⟨⟨_, Tryz.func20, by kernel_rfl, rfl⟩⟩
theorem hb_21 : HasBody Tryz.prog 21 := ⟨⟨_, Tryz.func21, by kernel_rfl, rfl⟩⟩
theorem hb_41 : HasBody Tryz.prog 41 := ⟨⟨_, Tryz.func41, by kernel_rfl, rfl⟩⟩
theorem hb_42 : HasBody Tryz.prog 42 := ⟨⟨_, Tryz.func42, by kernel_rfl, rfl⟩⟩
theorem hb_43 : HasBody Tryz.prog 43 := ⟨⟨_, Tryz.func43, by kernel_rfl, rfl⟩⟩
theorem hb_46 : HasBody Tryz.prog 46 := ⟨⟨_, Tryz.func46, by kernel_rfl, rfl⟩⟩
theorem hb_58 : HasBody Tryz.prog 58 := ⟨⟨_, Tryz.func58, by kernel_rfl, rfl⟩⟩
theorem hb_59 : HasBody Tryz.prog 59 := ⟨⟨_, Tryz.func59, by kernel_rfl, rfl⟩⟩
theorem hb_60 : HasBody Tryz.prog 60 := ⟨⟨_, Tryz.func60, by kernel_rfl, rfl⟩⟩
theorem hb_61 : HasBody Tryz.prog 61 := ⟨⟨_, Tryz.func61, by kernel_rfl, rfl⟩⟩
theorem hb_62 : HasBody Tryz.prog 62 := ⟨⟨_, Tryz.func62, by kernel_rfl, rfl⟩⟩
theorem hb_63 : HasBody Tryz.prog 63 := ⟨⟨_, Tryz.func63, by kernel_rfl, rfl⟩⟩
theorem hb_64 : HasBody Tryz.prog 64 := ⟨⟨_, Tryz.func64, by kernel_rfl, rfl⟩⟩
theorem hb_71 : HasBody Tryz.prog 71 := ⟨⟨_, Tryz.func71, by kernel_rfl, rfl⟩⟩
theorem hb_72 : HasBody Tryz.prog 72 := ⟨⟨_, Tryz.func72, by kernel_rfl, rfl⟩⟩
theorem hb_75 : HasBody Tryz.prog 75 := ⟨⟨_, Tryz.func75, by kernel_rfl, rfl⟩⟩
theorem hb_78 : HasBody Tryz.prog 78 := ⟨⟨_, Tryz.func78, by kernel_rfl, rfl⟩⟩
theorem hb_85 : HasBody Tryz.prog 85 := ⟨⟨_, Tryz.func85, by kernel_rfl, rfl⟩⟩
theorem hb_86 : HasBody Tryz.prog 86 := ⟨⟨_, Tryz.func86, by kernel_rfl, rfl⟩⟩
theorem hb_87 : HasBody Tryz.prog 87 := ⟨⟨_, Tryz.func87, by kernel_rfl, rfl⟩⟩
theorem hb_88 : HasBody Tryz.prog 88 := ⟨⟨_, Tryz.func88, by kernel_rfl, rfl⟩⟩
theorem hb_89 : HasBody Tryz.prog 89 := ⟨⟨_, Tryz.func89, by kernel_rfl, rfl⟩⟩
theorem hb_90 : HasBody Tryz.prog 90 := ⟨⟨_, Tryz.func90, by kernel_rfl, rfl⟩⟩
theorem hb_91 : HasBody Tryz.prog 91 := ⟨⟨_, Tryz.func91, by kernel_rfl, rfl⟩⟩
theorem hb_92 : HasBody Tryz.prog 92 := ⟨⟨_, Tryz.func92, by kernel_rfl, rfl⟩⟩
theorem hb_93 : HasBody Tryz.prog 93 := ⟨⟨_, Tryz.func93, by kernel_rfl, rfl⟩⟩
theorem hb_94 : HasBody Tryz.prog 94 := ⟨⟨_, Tryz.func94, by kernel_rfl, rfl⟩⟩
theorem hb_95 : HasBody Tryz.prog 95 := ⟨⟨_, Tryz.func95, by kernel_rfl, rfl⟩⟩
theorem hb_96 : HasBody Tryz.prog 96 := ⟨⟨_, Tryz.func96, by kernel_rfl, rfl⟩⟩
theorem hb_102 : HasBody Tryz.prog 102 := ⟨⟨_, Tryz.func102, by kernel_rfl, rfl⟩⟩
theorem hb_103 : HasBody Tryz.prog 103 := ⟨⟨_, Tryz.func103, by kernel_rfl, rfl⟩⟩
theorem hb_116 : HasBody Tryz.prog 116 := ⟨⟨_, Tryz.func116, by kernel_rfl, rfl⟩⟩
theorem hb_118 : HasBody Tryz.prog 118 := ⟨⟨_, Tryz.func118, by kernel_rfl, rfl⟩⟩
theorem hb_119 : HasBody Tryz.prog 119 := ⟨⟨_, Tryz.func119, by kernel_rfl, rfl⟩⟩
theorem hb_120 : HasBody Tryz.prog 120 := ⟨⟨_, Tryz.func120, by kernel_rfl, rfl⟩⟩
theorem hb_121 : HasBody Tryz.prog 121 := ⟨⟨_, Tryz.func121, by kernel_rfl, rfl⟩⟩
theorem hb_122 : HasBody Tryz.prog 122 := ⟨⟨_, Tryz.func122, by kernel_rfl, rfl⟩⟩
theorem hb_123 : HasBody Tryz.prog 123 := ⟨⟨_, Tryz.func123, by kernel_rfl, rfl⟩⟩
theorem hb_124 : HasBody Tryz.prog 124 := ⟨⟨_, Tryz.func124, by kernel_rfl, rfl⟩⟩
theorem hb_125 : HasBody Tryz.prog 125 := ⟨⟨_, Tryz.func125, by kernel_rfl, rfl⟩⟩
theorem hb_134 : HasBody Tryz.prog 134 := ⟨⟨_, Tryz.func134, by kernel_rfl, rfl⟩⟩
theorem hb_139 : HasBody Tryz.prog 139 := ⟨⟨_, Tryz.func139, by kernel_rfl, rfl⟩⟩
theorem hb_140 : HasBody Tryz.prog 140 := ⟨⟨_, Tryz.func140, by kernel_rfl, rfl⟩⟩
theorem hb_141 : HasBody Tryz.prog 141 := ⟨⟨_, Tryz.func141, by kernel_rfl, rfl⟩⟩
theorem hb_142 : HasBody Tryz.prog 142 := ⟨⟨_, Tryz.func142, by kernel_rfl, rfl⟩⟩
theorem hb_143 : HasBody Tryz.prog 143 := ⟨⟨_, Tryz.func143, by kernel_rfl, rfl⟩⟩
theorem hb_159 : HasBody Tryz.prog 159 := ⟨⟨_, Tryz.func159, by kernel_rfl, rfl⟩⟩
theorem hb_160 : HasBody Tryz.prog 160 := ⟨⟨_, Tryz.func160, by kernel_rfl, rfl⟩⟩
theorem hb_179 : HasBody Tryz.prog 179 := ⟨⟨_, Tryz.func179, by kernel_rfl, rfl⟩⟩
theorem hb_180 : HasBody Tryz.prog 180 := ⟨⟨_, Tryz.func180, by kernel_rfl, rfl⟩⟩
theorem lays_96 : lays Tryz.prog 96 = some ([.slice none 0 0, .slice none 0 0, .int .i64 0, .string ByteArray.empty, .string ByteArray.empty, .string ByteArray.empty, .int .i64 0], (fun i => ([(0, 1), (1, 1), (2, 2), (4, 1), (5, 1), (6, 1)] : List (Nat × Nat)).toArray[i]?)) := by kernel_rfl
theorem lays_99 : lays Tryz.prog 99 = some ([.int .i64 0, .string ByteArray.empty, .slice none 0 0, .slice none 0 0, .slice none 0 0], (fun i => ([(0, 1), (1, 1), (2, 1), (3, 1), (4, 1)] : List (Nat × Nat)).toArray[i]?)) := by kernel_rfl
theorem lays_130 : lays Tryz.prog 130 = some ([.slice none 0 0, .slice none 0 0], (fun i => ([(0, 1), (1, 1)] : List (Nat × Nat)).toArray[i]?)) := by kernel_rfl
theorem lays_134 : lays Tryz.prog 134 = some ([.string ByteArray.empty, .int .i64 0, .nilIface], (fun i => ([(0, 1), (1, 1), (2, 1)] : List (Nat × Nat)).toArray[i]?)) := by kernel_rfl
theorem sl_30 : SlOk Tryz.prog Un 30 9 .str := ⟨Tryz.underlying30, ty_9⟩
theorem row_30 : RowOk Tryz.prog Un 30 9 .str 16 := rowOk_mk (c := 1) sl_30 (by kernel_rfl) rfl (by decide)
theorem ty_96 : TyOk Tryz.prog Un 96 (.named 9) := tyOk_mk (c := 7) (by kernel_rfl) rfl Tryz.underlying96 rfl
theorem sl_97 : SlOk Tryz.prog Un 97 96 (.named 9) := ⟨Tryz.underlying97, ty_96⟩
theorem row_97 : RowOk Tryz.prog Un 97 96 (.named 9) 112 := rowOk_mk (c := 7) sl_97 (by kernel_rfl) rfl (by decide)
theorem ty_5 : TyOk Tryz.prog Un 5 (.int .u8) := tyOk_mk (c := 1) (by kernel_rfl) rfl Tryz.underlying5 rfl
theorem sl_102 : SlOk Tryz.prog Un 102 5 (.int .u8) := ⟨Tryz.underlying102, ty_5⟩
theorem row_102 : RowOk Tryz.prog Un 102 5 (.int .u8) 1 := rowOk_mk (c := 1) sl_102 (by kernel_rfl) rfl (by decide)
theorem sl_128 : SlOk Tryz.prog Un 128 3 (.int .i64) := ⟨Tryz.underlying128, ty_3⟩
theorem row_128 : RowOk Tryz.prog Un 128 3 (.int .i64) 8 := rowOk_mk (c := 1) sl_128 (by kernel_rfl) rfl (by decide)
theorem sl_170 : SlOk Tryz.prog Un 170 30 (.list .str) := ⟨Tryz.underlying170, ty_30⟩
theorem row_170 : RowOk Tryz.prog Un 170 30 (.list .str) 24 := rowOk_mk (c := 1) sl_170 (by kernel_rfl) rfl (by decide)
theorem ty_32 : TyOk Tryz.prog Un 32 .err := tyOk_mk (c := 1) (by kernel_rfl) rfl Tryz.underlying32 rfl
theorem ty_99 : TyOk Tryz.prog Un 99 (.named 10) := tyOk_mk (c := 5) (by kernel_rfl) rfl Tryz.underlying99 rfl
theorem ty_130 : TyOk Tryz.prog Un 130 (.named 14) := tyOk_mk (c := 2) (by kernel_rfl) rfl Tryz.underlying130 rfl
theorem ty_134 : TyOk Tryz.prog Un 134 (.named 15) := tyOk_mk (c := 3) (by kernel_rfl) rfl Tryz.underlying134 rfl
theorem ty1_90 : TyOk Tryz.prog Un 90 .bool := tyOk_mk (c := 1) (by kernel_rfl) rfl Tryz.underlying90 rfl
theorem z0_9 : ZeroOk Tryz.prog Un 9 .str ([] : List UInt8) := zeroOk_str (by kernel_rfl)
theorem z8_5 : ∃ i, Tryz.prog.info? 5 = some i ∧ i.zero = some (.int .u8 0) := z8_mk (by kernel_rfl)
noncomputable def TB : Tab Un where
  un := Tryz.prog.underlying
  ty := [(3, .int .i64), (5, .int .u8), (9, .str), (30, .list .str), (32, .err), (94, .named 8), (96, .named 9), (97, .list (.named 9)), (99, .named 10), (128, .list (.int .i64)), (130, .named 14), (134, .named 15), (90, .bool)]
  sl := [(30, 9, .str), (97, 96, .named 9), (102, 5, .int .u8), (128, 3, .int .i64), (170, 30, .list .str)]
  fd := [(94, 0, 0, .int .i64), (96, 0, 0, .list .str), (96, 1, 1, .list .str), (96, 2, 2, .named 8), (96, 3, 4, .str), (96, 4, 5, .str), (96, 5, 6, .int .i64), (99, 0, 0, .int .i64), (99, 1, 1, .str), (99, 3, 3, .list .str), (99, 4, 4, .list .str), (130, 0, 0, .list (.named 9)), (130, 1, 1, .list (.int .i64))]
  ro := [(30, 9, .str, 16), (97, 96, .named 9, 112), (102, 5, .int .u8, 1), (128, 3, .int .i64, 8), (170, 30, .list .str, 24)]
  zd := [(9, .p .str ([] : List UInt8))]
  az := [(96, [.p (.list .str) ([] : List (List UInt8)), .p (.list .str) ([] : List (List UInt8)), .p (.int .i64) (0 : Int), .p .str ([] : List UInt8), .p .str ([] : List UInt8), .p .str ([] : List UInt8), .p (.int .i64) (0 : Int)]), (99, [.p (.int .i64) (0 : Int), .p .str ([] : List UInt8), .p (.list .str) ([] : List (List UInt8)), .lit (.slice none 0 0), .p (.list .str) ([] : List (List UInt8))])]
  bz := [(96, [.p (.list .str) ([] : List (List UInt8)), .p (.list .str) ([] : List (List UInt8)), .p (.int .i64) (0 : Int), .p .str ([] : List UInt8), .p .str ([] : List UInt8), .p .str ([] : List UInt8), .p (.int .i64) (0 : Int)], [(0, 1, .list .str), (1, 1, .list .str), (2, 2, .named 8), (4, 1, .str), (5, 1, .str), (6, 1, .int .i64)]), (99, [.p (.int .i64) (0 : Int), .p .str ([] : List UInt8), .p (.list .str) ([] : List (List UInt8)), .lit (.slice none 0 0), .p (.list .str) ([] : List (List UInt8))], [(0, 1, .int .i64), (1, 1, .str), (2, 1, .list .str), (3, 1, .list .str), (4, 1, .list .str)]), (130, [.lit (.slice none 0 0), .lit (.slice none 0 0)], [(0, 1, .list (.named 9)), (1, 1, .list (.int .i64))]), (134, [.p .str ([] : List UInt8), .p (.int .i64) (0 : Int), .p .err (0 : Nat)], [(0, 1, .str), (1, 1, .int .i64), (2, 1, .err)])]
  hb := [15, 16, 17, 18, 19, 20, 21, 41, 42, 43, 46, 58, 59, 60, 61, 62, 63, 64, 71, 72, 75, 78, 85, 86, 87, 88, 89, 90, 91, 92, 93, 94, 95, 96, 102, 103, 116, 118, 119, 120, 121, 122, 123, 124, 125, 134, 139, 140, 141, 142, 143, 159, 160, 179, 180]
theorem TBok : TbOk Tryz.prog Un TB where
  un := fun _ _ h => h
  ty := (.c ty_3 (.c ty_5 (.c ty_9 (.c ty_30 (.c ty_32 (.c ty_94 (.c ty_96 (.c ty_97 (.c ty_99 (.c ty_128 (.c ty_130 (.c ty_134 (.c ty1_90 AllP.z)))))))))))))
  sl := (.c sl_30 (.c sl_97 (.c sl_102 (.c sl_128 (.c sl_170 AllP.z)))))
  fd := (.c ⟨_, fd_94_0⟩ (.c ⟨_, fd_96_0⟩ (.c ⟨_, fd_96_1⟩ (.c ⟨_, fd_96_2⟩ (.c ⟨_, fd_96_3⟩ (.c ⟨_, fd_96_4⟩ (.c ⟨_, fd_96_5⟩ (.c ⟨_, fd_99_0⟩ (.c ⟨_, fd_99_1⟩ (.c ⟨_, fd_99_3⟩ (.c ⟨_, fd_99_4⟩ (.c ⟨_, fd_130_0⟩ (.c ⟨_, fd_130_1⟩ AllP.z)))))))))))))
  ro := (.c row_30 (.c row_97 (.c row_102 (.c row_128 (.c row_170 AllP.z)))))
  mp := AllP.z
  zd := (.c z0_9 AllP.z)
  az := (.c az_96 (.c az_99 AllP.z))
  bz := (.c ⟨_, _, lays_96, (.data (fun _ _ _ => .lnil _) (.data (fun _ _ _ => .lnil _) (.data (fun _ _ _ => .int _ _) (.data (fun _ _ _ => rd_str0) (.data (fun _ _ _ => rd_str0) (.data (fun _ _ _ => rd_str0) (.data (fun _ _ _ => .int _ _) .nil))))))), by kernel_rfl⟩ (.c ⟨_, _, lays_99, (.data (fun _ _ _ => .int _ _) (.data (fun _ _ _ => rd_str0) (.data (fun _ _ _ => .lnil _) (.lit rfl (.data (fun _ _ _ => .lnil _) .nil))))), by kernel_rfl⟩ (.c ⟨_, _, lays_130, (.lit rfl (.lit rfl .nil)), by kernel_rfl⟩ (.c ⟨_, _, lays_134, (.data (fun _ _ _ => rd_str0) (.data (fun _ _ _ => .int _ _) (.data (fun _ _ _ => .err0) .nil))), by kernel_rfl⟩ AllP.z))))
  hb := (.c hb_15 (.c hb_16 (.c hb_17 (.c hb_18 (.c hb_19 (.c hb_20 (.c hb_21 (.c hb_41 (.c hb_42 (.c hb_43 (.c hb_46 (.c hb_58 (.c hb_59 (.c hb_60 (.c hb_61 (.c hb_62 (.c hb_63 (.c hb_64 (.c hb_71 (.c hb_72 (.c hb_75 (.c hb_78 (.c hb_85 (.c hb_86 (.c hb_87 (.c hb_88 (.c hb_89 (.c hb_90 (.c hb_91 (.c hb_92 (.c hb_93 (.c hb_94 (.c hb_95 (.c hb_96 (.c hb_102 (.c hb_103 (.c hb_116 (.c hb_118 (.c hb_119 (.c hb_120 (.c hb_121 (.c hb_122 (.c hb_123 (.c hb_124 (.c hb_125 (.c hb_134 (.c hb_139 (.c hb_140 (.c hb_141 (.c hb_142 (.c hb_143 (.c hb_159 (.c hb_160 (.c hb_179 (.c hb_180 AllP.z)))))))))))))))))))))))))))))))))))))))))))))))))))))))
theorem rSC {O : Out} {B : Base} {id N : Nat} {ops : Array Oper} {st : St Un} {Q : PostQ Un} (x : RX Un O Tryz.prog ops) (ts ns : List Nat) (hN : B.n = N) (h1 : okS TB x st N = true) (h2 : obL TB x st = obR TB x st)  {st2 : St Un} (hcv : Conv Un O (nxS TB x st ts ns) st2) (hQ : Q .normal st2) : WpC Un O Tryz.prog B (.region id ops false) st Q := WpC.rS TBok x ts ns hN h1 h2 rfl hcv hQ
theorem rS {O : Out} {B : Base} {id N : Nat} {ops : Array Oper} {st : St Un} {Q : PostQ Un} (x : RX Un O Tryz.prog ops) (ts ns : List Nat) (hN : B.n = N) (h1 : okS TB x st N = true) (h2 : obL TB x st = obR TB x st)  (hQ : Q .normal (nxS TB x st ts ns)) : WpC Un O Tryz.prog B (.region id ops false) st Q := WpC.rS TBok x ts ns hN h1 h2 rfl (Conv.refl _) hQ
theorem rAC {O : Out} {B : Base} {id N : Nat} {ops : Array Oper} {st : St Un} {Q : PostQ Un} (x : RX Un O Tryz.prog ops) (ts ns : List Nat) (hN : B.n = N) (h1 : okS TB x st N = true) (h2 : obL TB x st = obR TB x st) (h4 : raS TB x st = true)  {st2 : St Un} (hcv : Conv Un O (nxS TB x st ts ns) st2) (hQ : Q .normal st2) : WpC Un O Tryz.prog B (.region id ops true) st Q := WpC.rA TBok mixed x ts ns hN h1 h2 h4 rfl hcv hQ
theorem rA {O : Out} {B : Base} {id N : Nat} {ops : Array Oper} {st : St Un} {Q : PostQ Un} (x : RX Un O Tryz.prog ops) (ts ns : List Nat) (hN : B.n = N) (h1 : okS TB x st N = true) (h2 : obL TB x st = obR TB x st) (h4 : raS TB x st = true)  (hQ : Q .normal (nxS TB x st ts ns)) : WpC Un O Tryz.prog B (.region id ops true) st Q := WpC.rA TBok mixed x ts ns hN h1 h2 h4 rfl (Conv.refl _) hQ
theorem cS {O : Out} {st : St Un} (l : List (CV Un O)) (h1 : cvOk l st = true) (h2 : cvL l st = cvR l st) : Conv Un O st (cvN l st) := Conv.S h1 h2
theorem tS : type_of% (@WpC.tS Un) := @WpC.tS Un
theorem eR {O : Out} {fn : Func} {c : CSpec Un} {st : St Un} (h1 : (resD TB st fn.results.toList).map resOf = some c.r) (h2 : (c.bs'.map fun x => lookA st.hp x.1) = c.bs'.map fun x => some x.2) : Go.AM.Ends Un O Tryz.prog fn c .ret st := ends_retS TBok h1 h2
theorem cvR : type_of% (@Conv.refl Un) := @Conv.refl Un
theorem caV : type_of% (@sok_callV Un) := @sok_callV Un
theorem cvK : type_of% (@Conv.keep Un) := @Conv.keep Un
theorem sqJ : type_of% (@WpC.seqJ Un) := @WpC.seqJ Un
theorem tnU : type_of% (@thenQ_normal Un) := @thenQ_normal Un
end Go.Proofs.YtldepagjdbcmgaaGreatDoor
