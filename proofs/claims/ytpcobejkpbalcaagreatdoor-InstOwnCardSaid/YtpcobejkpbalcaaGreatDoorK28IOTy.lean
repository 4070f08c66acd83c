/- A part of the proof of a given law: IOTy. Own work, printed in part by a program of mine. -/
import Derived.Test.YtpcobejkpbalcaaGreatDoorK28AmR5
import Derived.Test.YtpcobejkpbalcaaGreatDoorProg
namespace Go.Proofs.YtpcobejkpbalcaaGreatDoor
open Go Go.AM
set_option linter.unusedVariables false
set_option linter.unusedSimpArgs false
set_option maxRecDepth 100000
set_option maxHeartbeats 4000000
structure T_runtime_boundsError where
  f_x : Int
  f_y : Int
  f_signed : Bool
  f_code : Int
  deriving Inhabited
structure T_runtime_errorAddressString where
  f_msg : List UInt8
  f_addr : Int
  deriving Inhabited
structure T_attr_Attr where
  f_Flags : Int
  f_Prog : List UInt8
  deriving Inhabited
structure T_load_Rule where
  f_Targets : List (List UInt8)
  f_Prereqs : List (List UInt8)
  f_Attr : T_attr_Attr
  f_Recipe : List UInt8
  f_File : List UInt8
  f_Line : Int
  deriving Inhabited
structure T_inst_Inst where
  f_Rule : Int
  f_Stem : List UInt8
  f_Subs : List (List UInt8)
  f_Targets : List (List UInt8)
  f_Prereqs : List (List UInt8)
  deriving Inhabited
structure T_millwrightref20_Rule where
  f_Targets : List (List UInt8)
  f_Prereqs : List (List UInt8)
  f_Attr : T_attr_Attr
  f_Recipe : List UInt8
  f_File : List UInt8
  f_Line : Int
  deriving Inhabited
structure T_table_Table where
  f_rules : List T_load_Rule
  f_kinds : List Int
  deriving Inhabited
structure T_load_Fault where
  f_File : List UInt8
  f_Line : Int
  f_Err : Nat
  deriving Inhabited
inductive T_millwrightref07_Node where
  | mk (f_Kind : Int) (f_Index : Int) (f_Set : List Int) (f_Kids : List T_millwrightref07_Node)
def T_millwrightref07_Node.f_Kind : T_millwrightref07_Node → Int | .mk x0 _ _ _ => x0
def T_millwrightref07_Node.f_Index : T_millwrightref07_Node → Int | .mk _ x1 _ _ => x1
def T_millwrightref07_Node.f_Set : T_millwrightref07_Node → List Int | .mk _ _ x2 _ => x2
def T_millwrightref07_Node.f_Kids : T_millwrightref07_Node → List T_millwrightref07_Node | .mk _ _ _ x3 => x3
structure T_millwrightref08_Instr where
  f_Op : Int
  f_X : Int
  f_Y : Int
  f_Set : List Int
  deriving Inhabited
structure T_millwrightref07_sign where
  f_Mark : Int
  f_Set : List Int
  deriving Inhabited
structure T_millwrightref09_search where
  f_p : List T_millwrightref08_Instr
  f_s : List UInt8
  f_been : List Bool
  deriving Inhabited
structure T_prog_Instr where
  f_Op : Int
  f_X : Int
  f_Y : Int
  f_Set : List Int
  deriving Inhabited
inductive T_rex_Node where
  | mk (f_Kind : Int) (f_Index : Int) (f_Set : List Int) (f_Kids : List T_rex_Node)
def T_rex_Node.f_Kind : T_rex_Node → Int | .mk x0 _ _ _ => x0
def T_rex_Node.f_Index : T_rex_Node → Int | .mk _ x1 _ _ => x1
def T_rex_Node.f_Set : T_rex_Node → List Int | .mk _ _ x2 _ => x2
def T_rex_Node.f_Kids : T_rex_Node → List T_rex_Node | .mk _ _ _ x3 => x3
structure T_rex_parser where
  f_s : List UInt8
  f_at : Int
  f_groups : Int
  f_bad : Bool
  deriving Inhabited
structure T_prog_writer where
  f_code : List T_prog_Instr
  deriving Inhabited
structure T_pike_thread where
  f_at : Int
  f_kept : List Int
  deriving Inhabited
structure T_reflectlite_ValueError where
  f_Method : List UInt8
  f_Kind : Int
  deriving Inhabited
structure T_errors_errorString where
  f_s : List UInt8
  deriving Inhabited
structure T_abi_UncommonType where
  f_PkgPath : Int
  f_Mcount : Int
  f_Xcount : Int
  f_Moff : Int
  f_blank4 : Int
  deriving Inhabited
structure T_abi_Method where
  f_Name : Int
  f_Mtyp : Int
  f_Ifn : Int
  f_Tfn : Int
  deriving Inhabited
def UnT : Nat → Type := fun n => match n with | 0 => T_runtime_boundsError | 1 => T_runtime_errorAddressString | 2 => Unit | 3 => T_load_Rule | 4 => T_attr_Attr | 5 => T_inst_Inst | 6 => T_millwrightref20_Rule | 7 => T_table_Table | 8 => T_load_Fault | 9 => T_millwrightref07_Node | 10 => T_millwrightref08_Instr | 11 => T_millwrightref07_sign | 12 => T_millwrightref09_search | 13 => Unit | 14 => T_prog_Instr | 15 => Unit | 16 => T_rex_Node | 17 => T_rex_parser | 18 => T_prog_writer | 19 => T_pike_thread | 20 => Unit | 21 => Unit | 22 => Unit | 23 => Unit | 24 => T_reflectlite_ValueError | 25 => T_errors_errorString | 26 => T_abi_UncommonType | 27 => T_abi_Method | _ + 28 => Unit
def UnB : Nat → Ty := fun n => match n with | 0 => (.pair (.int .i64) (.pair (.int .i64) (.pair .bool (.pair (.int .u8) .unit)))) | 1 => (.pair .str (.pair (.int .u64) .unit)) | 2 => .unit | 3 => (.pair (.list .str) (.pair (.list .str) (.pair (.named 4) (.pair .str (.pair .str (.pair (.int .i64) .unit)))))) | 4 => (.pair (.int .i64) (.pair .str .unit)) | 5 => (.pair (.int .i64) (.pair .str (.pair (.list .str) (.pair (.list .str) (.pair (.list .str) .unit))))) | 6 => (.pair (.list .str) (.pair (.list .str) (.pair (.named 4) (.pair .str (.pair .str (.pair (.int .i64) .unit)))))) | 7 => (.pair (.list (.named 3)) (.pair (.list (.int .i64)) .unit)) | 8 => (.pair .str (.pair (.int .i64) (.pair .err .unit))) | 9 => (.pair (.int .i64) (.pair (.int .i64) (.pair (.arr 4 (.int .u64)) (.pair (.list (.named 9)) .unit)))) | 10 => (.pair (.int .i64) (.pair (.int .i64) (.pair (.int .i64) (.pair (.arr 4 (.int .u64)) .unit)))) | 11 => (.pair (.int .u8) (.pair (.arr 4 (.int .u64)) .unit)) | 12 => (.pair (.list (.named 10)) (.pair .str (.pair (.list .bool) .unit))) | 13 => .unit | 14 => (.pair (.int .i64) (.pair (.int .i64) (.pair (.int .i64) (.pair (.arr 4 (.int .u64)) .unit)))) | 15 => .unit | 16 => (.pair (.int .i64) (.pair (.int .i64) (.pair (.arr 4 (.int .u64)) (.pair (.list (.named 16)) .unit)))) | 17 => (.pair .str (.pair (.int .i64) (.pair (.int .i64) (.pair .bool .unit)))) | 18 => (.pair (.list (.named 14)) .unit) | 19 => (.pair (.int .i64) (.pair (.arr 20 (.int .i64)) .unit)) | 20 => .unit | 21 => .unit | 22 => .unit | 23 => .unit | 24 => (.pair .str (.pair (.int .u8) .unit)) | 25 => (.pair .str .unit) | 26 => (.pair (.int .i32) (.pair (.int .u16) (.pair (.int .u16) (.pair (.int .u32) (.pair (.int .u32) .unit))))) | 27 => (.pair (.int .i32) (.pair (.int .i32) (.pair (.int .i32) (.pair (.int .i32) .unit)))) | _ + 28 => .unit
def UnOut : (n : Nat) → UnT n → (UnB n).den UnT := fun n => match n with | 0 => fun x => (x.f_x, x.f_y, x.f_signed, x.f_code, ()) | 1 => fun x => (x.f_msg, x.f_addr, ()) | 2 => fun _ => () | 3 => fun x => (x.f_Targets, x.f_Prereqs, x.f_Attr, x.f_Recipe, x.f_File, x.f_Line, ()) | 4 => fun x => (x.f_Flags, x.f_Prog, ()) | 5 => fun x => (x.f_Rule, x.f_Stem, x.f_Subs, x.f_Targets, x.f_Prereqs, ()) | 6 => fun x => (x.f_Targets, x.f_Prereqs, x.f_Attr, x.f_Recipe, x.f_File, x.f_Line, ()) | 7 => fun x => (x.f_rules, x.f_kinds, ()) | 8 => fun x => (x.f_File, x.f_Line, x.f_Err, ()) | 9 => fun x => (x.f_Kind, x.f_Index, x.f_Set, x.f_Kids, ()) | 10 => fun x => (x.f_Op, x.f_X, x.f_Y, x.f_Set, ()) | 11 => fun x => (x.f_Mark, x.f_Set, ()) | 12 => fun x => (x.f_p, x.f_s, x.f_been, ()) | 13 => fun _ => () | 14 => fun x => (x.f_Op, x.f_X, x.f_Y, x.f_Set, ()) | 15 => fun _ => () | 16 => fun x => (x.f_Kind, x.f_Index, x.f_Set, x.f_Kids, ()) | 17 => fun x => (x.f_s, x.f_at, x.f_groups, x.f_bad, ()) | 18 => fun x => (x.f_code, ()) | 19 => fun x => (x.f_at, x.f_kept, ()) | 20 => fun _ => () | 21 => fun _ => () | 22 => fun _ => () | 23 => fun _ => () | 24 => fun x => (x.f_Method, x.f_Kind, ()) | 25 => fun x => (x.f_s, ()) | 26 => fun x => (x.f_PkgPath, x.f_Mcount, x.f_Xcount, x.f_Moff, x.f_blank4, ()) | 27 => fun x => (x.f_Name, x.f_Mtyp, x.f_Ifn, x.f_Tfn, ()) | _ + 28 => fun _ => ()
def UnInn : (n : Nat) → (UnB n).den UnT → UnT n := fun n => match n with | 0 => fun (x : Int × Int × Bool × Int × Unit) => (T_runtime_boundsError.mk x.1 x.2.1 x.2.2.1 x.2.2.2.1 : T_runtime_boundsError) | 1 => fun (x : (List UInt8) × Int × Unit) => (T_runtime_errorAddressString.mk x.1 x.2.1 : T_runtime_errorAddressString) | 2 => fun _ => () | 3 => fun (x : (List (List UInt8)) × (List (List UInt8)) × T_attr_Attr × (List UInt8) × (List UInt8) × Int × Unit) => (T_load_Rule.mk x.1 x.2.1 x.2.2.1 x.2.2.2.1 x.2.2.2.2.1 x.2.2.2.2.2.1 : T_load_Rule) | 4 => fun (x : Int × (List UInt8) × Unit) => (T_attr_Attr.mk x.1 x.2.1 : T_attr_Attr) | 5 => fun (x : Int × (List UInt8) × (List (List UInt8)) × (List (List UInt8)) × (List (List UInt8)) × Unit) => (T_inst_Inst.mk x.1 x.2.1 x.2.2.1 x.2.2.2.1 x.2.2.2.2.1 : T_inst_Inst) | 6 => fun (x : (List (List UInt8)) × (List (List UInt8)) × T_attr_Attr × (List UInt8) × (List UInt8) × Int × Unit) => (T_millwrightref20_Rule.mk x.1 x.2.1 x.2.2.1 x.2.2.2.1 x.2.2.2.2.1 x.2.2.2.2.2.1 : T_millwrightref20_Rule) | 7 => fun (x : (List T_load_Rule) × (List Int) × Unit) => (T_table_Table.mk x.1 x.2.1 : T_table_Table) | 8 => fun (x : (List UInt8) × Int × Nat × Unit) => (T_load_Fault.mk x.1 x.2.1 x.2.2.1 : T_load_Fault) | 9 => fun (x : Int × Int × (List Int) × (List T_millwrightref07_Node) × Unit) => (T_millwrightref07_Node.mk x.1 x.2.1 x.2.2.1 x.2.2.2.1 : T_millwrightref07_Node) | 10 => fun (x : Int × Int × Int × (List Int) × Unit) => (T_millwrightref08_Instr.mk x.1 x.2.1 x.2.2.1 x.2.2.2.1 : T_millwrightref08_Instr) | 11 => fun (x : Int × (List Int) × Unit) => (T_millwrightref07_sign.mk x.1 x.2.1 : T_millwrightref07_sign) | 12 => fun (x : (List T_millwrightref08_Instr) × (List UInt8) × (List Bool) × Unit) => (T_millwrightref09_search.mk x.1 x.2.1 x.2.2.1 : T_millwrightref09_search) | 13 => fun _ => () | 14 => fun (x : Int × Int × Int × (List Int) × Unit) => (T_prog_Instr.mk x.1 x.2.1 x.2.2.1 x.2.2.2.1 : T_prog_Instr) | 15 => fun _ => () | 16 => fun (x : Int × Int × (List Int) × (List T_rex_Node) × Unit) => (T_rex_Node.mk x.1 x.2.1 x.2.2.1 x.2.2.2.1 : T_rex_Node) | 17 => fun (x : (List UInt8) × Int × Int × Bool × Unit) => (T_rex_parser.mk x.1 x.2.1 x.2.2.1 x.2.2.2.1 : T_rex_parser) | 18 => fun (x : (List T_prog_Instr) × Unit) => (T_prog_writer.mk x.1 : T_prog_writer) | 19 => fun (x : Int × (List Int) × Unit) => (T_pike_thread.mk x.1 x.2.1 : T_pike_thread) | 20 => fun _ => () | 21 => fun _ => () | 22 => fun _ => () | 23 => fun _ => () | 24 => fun (x : (List UInt8) × Int × Unit) => (T_reflectlite_ValueError.mk x.1 x.2.1 : T_reflectlite_ValueError) | 25 => fun (x : (List UInt8) × Unit) => (T_errors_errorString.mk x.1 : T_errors_errorString) | 26 => fun (x : Int × Int × Int × Int × Int × Unit) => (T_abi_UncommonType.mk x.1 x.2.1 x.2.2.1 x.2.2.2.1 x.2.2.2.2.1 : T_abi_UncommonType) | 27 => fun (x : Int × Int × Int × Int × Unit) => (T_abi_Method.mk x.1 x.2.1 x.2.2.1 x.2.2.2.1 : T_abi_Method) | _ + 28 => fun _ => ()
def UnW : Nat → Nat := fun n => match n with | 0 => 4 | 1 => 2 | 2 => 0 | 3 => 7 | 4 => 2 | 5 => 5 | 6 => 7 | 7 => 2 | 8 => 3 | 9 => 7 | 10 => 7 | 11 => 5 | 12 => 3 | 13 => 0 | 14 => 7 | 15 => 0 | 16 => 7 | 17 => 4 | 18 => 1 | 19 => 21 | 20 => 0 | 21 => 0 | 22 => 0 | 23 => 0 | 24 => 2 | 25 => 1 | 26 => 5 | 27 => 4 | _ + 28 => 0
def UnF : Nat → Bool := fun n => match n with | 0 => true | 1 => true | 2 => true | 3 => false | 4 => true | 5 => false | 6 => false | 7 => false | 8 => true | 9 => false | 10 => true | 11 => true | 12 => false | 13 => true | 14 => true | 15 => true | 16 => false | 17 => true | 18 => false | 19 => true | 20 => true | 21 => true | 22 => true | 23 => true | 24 => true | 25 => true | 26 => true | 27 => true | _ + 28 => true
theorem un_out_inn : ∀ n x, UnOut n (UnInn n x) = x := by
  intro n
  match n with
  | 0 => exact fun _ => rfl
  | 1 => exact fun _ => rfl
  | 2 => exact fun _ => rfl
  | 3 => exact fun _ => rfl
  | 4 => exact fun _ => rfl
  | 5 => exact fun _ => rfl
  | 6 => exact fun _ => rfl
  | 7 => exact fun _ => rfl
  | 8 => exact fun _ => rfl
  | 9 => exact fun _ => rfl
  | 10 => exact fun _ => rfl
  | 11 => exact fun _ => rfl
  | 12 => exact fun _ => rfl
  | 13 => exact fun _ => rfl
  | 14 => exact fun _ => rfl
  | 15 => exact fun _ => rfl
  | 16 => exact fun _ => rfl
  | 17 => exact fun _ => rfl
  | 18 => exact fun _ => rfl
  | 19 => exact fun _ => rfl
  | 20 => exact fun _ => rfl
  | 21 => exact fun _ => rfl
  | 22 => exact fun _ => rfl
  | 23 => exact fun _ => rfl
  | 24 => exact fun _ => rfl
  | 25 => exact fun _ => rfl
  | 26 => exact fun _ => rfl
  | 27 => exact fun _ => rfl
  | _ + 28 => exact fun _ => rfl
theorem un_inn_out : ∀ n x, UnInn n (UnOut n x) = x := by
  intro n
  match n with
  | 0 => exact fun x => by cases x; rfl
  | 1 => exact fun x => by cases x; rfl
  | 2 => exact fun _ => rfl
  | 3 => exact fun x => by cases x; rfl
  | 4 => exact fun x => by cases x; rfl
  | 5 => exact fun x => by cases x; rfl
  | 6 => exact fun x => by cases x; rfl
  | 7 => exact fun x => by cases x; rfl
  | 8 => exact fun x => by cases x; rfl
  | 9 => exact fun x => by cases x; rfl
  | 10 => exact fun x => by cases x; rfl
  | 11 => exact fun x => by cases x; rfl
  | 12 => exact fun x => by cases x; rfl
  | 13 => exact fun _ => rfl
  | 14 => exact fun x => by cases x; rfl
  | 15 => exact fun _ => rfl
  | 16 => exact fun x => by cases x; rfl
  | 17 => exact fun x => by cases x; rfl
  | 18 => exact fun x => by cases x; rfl
  | 19 => exact fun x => by cases x; rfl
  | 20 => exact fun _ => rfl
  | 21 => exact fun _ => rfl
  | 22 => exact fun _ => rfl
  | 23 => exact fun _ => rfl
  | 24 => exact fun x => by cases x; rfl
  | 25 => exact fun x => by cases x; rfl
  | 26 => exact fun x => by cases x; rfl
  | 27 => exact fun x => by cases x; rfl
  | _ + 28 => exact fun _ => rfl
theorem un_wd : ∀ n, (UnB n).width UnW = UnW n := by
  intro n
  match n with
  | 0 => rfl
  | 1 => rfl
  | 2 => rfl
  | 3 => rfl
  | 4 => rfl
  | 5 => rfl
  | 6 => rfl
  | 7 => rfl
  | 8 => rfl
  | 9 => rfl
  | 10 => rfl
  | 11 => rfl
  | 12 => rfl
  | 13 => rfl
  | 14 => rfl
  | 15 => rfl
  | 16 => rfl
  | 17 => rfl
  | 18 => rfl
  | 19 => rfl
  | 20 => rfl
  | 21 => rfl
  | 22 => rfl
  | 23 => rfl
  | 24 => rfl
  | 25 => rfl
  | 26 => rfl
  | 27 => rfl
  | _ + 28 => rfl
theorem un_fl : ∀ n, UnF n = true → (UnB n).flat UnF = true := by
  intro n
  match n with
  | 0 => exact fun h => by first | rfl | cases h
  | 1 => exact fun h => by first | rfl | cases h
  | 2 => exact fun h => by first | rfl | cases h
  | 3 => exact fun h => by first | rfl | cases h
  | 4 => exact fun h => by first | rfl | cases h
  | 5 => exact fun h => by first | rfl | cases h
  | 6 => exact fun h => by first | rfl | cases h
  | 7 => exact fun h => by first | rfl | cases h
  | 8 => exact fun h => by first | rfl | cases h
  | 9 => exact fun h => by first | rfl | cases h
  | 10 => exact fun h => by first | rfl | cases h
  | 11 => exact fun h => by first | rfl | cases h
  | 12 => exact fun h => by first | rfl | cases h
  | 13 => exact fun h => by first | rfl | cases h
  | 14 => exact fun h => by first | rfl | cases h
  | 15 => exact fun h => by first | rfl | cases h
  | 16 => exact fun h => by first | rfl | cases h
  | 17 => exact fun h => by first | rfl | cases h
  | 18 => exact fun h => by first | rfl | cases h
  | 19 => exact fun h => by first | rfl | cases h
  | 20 => exact fun h => by first | rfl | cases h
  | 21 => exact fun h => by first | rfl | cases h
  | 22 => exact fun h => by first | rfl | cases h
  | 23 => exact fun h => by first | rfl | cases h
  | 24 => exact fun h => by first | rfl | cases h
  | 25 => exact fun h => by first | rfl | cases h
  | 26 => exact fun h => by first | rfl | cases h
  | 27 => exact fun h => by first | rfl | cases h
  | _ + 28 => exact fun _ => rfl
def Un : Univ where
  T := UnT
  body := UnB
  out := UnOut
  inn := UnInn
  out_inn := un_out_inn
  inn_out := un_inn_out
  wd := UnW
  wd_ok := un_wd
  fl := UnF
  fl_ok := un_fl
theorem mixed : Tryz.prog.follows .mixedOrders = true := by kernel_rfl
theorem az_36 : ∃ v cs, (Tryz.prog.info? 36).bind (·.zero) = some v ∧ v.cells.toList = cs ∧ ZU Un [.p (.int .i64) (0 : Int), .p .str ([] : List UInt8), .p (.list .str) ([] : List (List UInt8)), .lit (.slice none 0 0), .p (.list .str) ([] : List (List UInt8))] cs := ⟨(.agg #[.int .i64 0, .string ByteArray.empty, .slice none 0 0, .slice none 0 0, .slice none 0 0]), _, by kernel_rfl, rfl, (.data (fun _ _ _ => .int _ _) (.data (fun _ _ _ => rd_str0) (.data (fun _ _ _ => .lnil _) (.lit rfl (.data (fun _ _ _ => .lnil _) .nil)))))⟩
theorem az_62 : ∃ v cs, (Tryz.prog.info? 62).bind (·.zero) = some v ∧ v.cells.toList = cs ∧ ZU Un [.p (.list .str) ([] : List (List UInt8)), .p (.list .str) ([] : List (List UInt8)), .p (.int .i64) (0 : Int), .p .str ([] : List UInt8), .p .str ([] : List UInt8), .p .str ([] : List UInt8), .p (.int .i64) (0 : Int)] cs := ⟨(.agg #[.slice none 0 0, .slice none 0 0, .int .i64 0, .string ByteArray.empty, .string ByteArray.empty, .string ByteArray.empty, .int .i64 0]), _, by kernel_rfl, rfl, (.data (fun _ _ _ => .lnil _) (.data (fun _ _ _ => .lnil _) (.data (fun _ _ _ => .int _ _) (.data (fun _ _ _ => rd_str0) (.data (fun _ _ _ => rd_str0) (.data (fun _ _ _ => rd_str0) (.data (fun _ _ _ => .int _ _) .nil)))))))⟩
theorem az_198 : ∃ v cs, (Tryz.prog.info? 198).bind (·.zero) = some v ∧ v.cells.toList = cs ∧ ZU Un [.p (.arr 4 (.int .u64)) ((List.replicate 4 (0 : Int)) : List Int)] cs := ⟨(.agg #[.int .u64 0, .int .u64 0, .int .u64 0, .int .u64 0]), _, by kernel_rfl, rfl, (.data (rd_zeros _ _) .nil)⟩
theorem az_201 : ∃ v cs, (Tryz.prog.info? 201).bind (·.zero) = some v ∧ v.cells.toList = cs ∧ ZU Un [.p (.int .i64) (0 : Int), .p (.int .i64) (0 : Int), .p (.arr 4 (.int .u64)) ((List.replicate 4 (0 : Int)) : List Int), .p (.list (.named 16)) ([] : List T_rex_Node)] cs := ⟨(.agg #[.int .i64 0, .int .i64 0, .int .u64 0, .int .u64 0, .int .u64 0, .int .u64 0, .slice none 0 0]), _, by kernel_rfl, rfl, (.data (fun _ _ _ => .int _ _) (.data (fun _ _ _ => .int _ _) (.data (rd_zeros _ _) (.data (fun _ _ _ => .lnil _) .nil))))⟩
theorem az_228 : ∃ v cs, (Tryz.prog.info? 228).bind (·.zero) = some v ∧ v.cells.toList = cs ∧ ZU Un [.lit (.slice none 0 0)] cs := ⟨(.agg #[.slice none 0 0]), _, by kernel_rfl, rfl, (.lit rfl .nil)⟩
theorem az_231 : ∃ v cs, (Tryz.prog.info? 231).bind (·.zero) = some v ∧ v.cells.toList = cs ∧ ZU Un [.p (.int .i64) (0 : Int), .p (.int .i64) (0 : Int), .p (.int .i64) (0 : Int), .p (.arr 4 (.int .u64)) ((List.replicate 4 (0 : Int)) : List Int)] cs := ⟨(.agg #[.int .i64 0, .int .i64 0, .int .i64 0, .int .u64 0, .int .u64 0, .int .u64 0, .int .u64 0]), _, by kernel_rfl, rfl, (.data (fun _ _ _ => .int _ _) (.data (fun _ _ _ => .int _ _) (.data (fun _ _ _ => .int _ _) (.data (rd_zeros _ _) .nil))))⟩
theorem az_238 : ∃ v cs, (Tryz.prog.info? 238).bind (·.zero) = some v ∧ v.cells.toList = cs ∧ ZU Un [.p (.arr 20 (.int .i64)) ((List.replicate 20 (0 : Int)) : List Int)] cs := ⟨(.agg #[.int .i64 0, .int .i64 0, .int .i64 0, .int .i64 0, .int .i64 0, .int .i64 0, .int .i64 0, .int .i64 0, .int .i64 0, .int .i64 0, .int .i64 0, .int .i64 0, .int .i64 0, .int .i64 0, .int .i64 0, .int .i64 0, .int .i64 0, .int .i64 0, .int .i64 0, .int .i64 0]), _, by kernel_rfl, rfl, (.data (rd_zeros _ _) .nil)⟩
theorem az_257 : ∃ v cs, (Tryz.prog.info? 257).bind (·.zero) = some v ∧ v.cells.toList = cs ∧ ZU Un [.p (.int .i64) (0 : Int), .p (.arr 20 (.int .i64)) ((List.replicate 20 (0 : Int)) : List Int)] cs := ⟨(.agg #[.int .i64 0, .int .i64 0, .int .i64 0, .int .i64 0, .int .i64 0, .int .i64 0, .int .i64 0, .int .i64 0, .int .i64 0, .int .i64 0, .int .i64 0, .int .i64 0, .int .i64 0, .int .i64 0, .int .i64 0, .int .i64 0, .int .i64 0, .int .i64 0, .int .i64 0, .int .i64 0, .int .i64 0]), _, by kernel_rfl, rfl, (.data (fun _ _ _ => .int _ _) (.data (rd_zeros _ _) .nil))⟩
theorem ty_3 : TyOk Tryz.prog Un 3 (.int .i64) := tyOk_mk (c := 1) (by kernel_rfl) rfl Tryz.underlying3 rfl
theorem ty_9 : TyOk Tryz.prog Un 9 .str := tyOk_mk (c := 1) (by kernel_rfl) rfl Tryz.underlying9 rfl
theorem eqf_60 : ∀ fs, Tryz.prog.underlying 60 = some (.struct fs) → EqF Tryz.prog Un fs.toList 0 (Un.body 4) := fun fs h => by
  rw [Tryz.underlying60] at h
  cases h
  exact (.cons (by decide) rfl ty_3 (.int Tryz.underlying3) (.cons (by decide) rfl ty_9 (.str Tryz.underlying9) .nil))
theorem fd_36_0 : FdOk Tryz.prog Un 36 0 0 3 (.int .i64) := ⟨⟨_, _, Tryz.underlying36, rfl, rfl, rfl⟩, ty_3⟩
theorem fd_36_1 : FdOk Tryz.prog Un 36 1 1 9 .str := ⟨⟨_, _, Tryz.underlying36, rfl, rfl, rfl⟩, ty_9⟩
theorem ty_34 : TyOk Tryz.prog Un 34 (.list .str) := tyOk_mk (c := 1) (by kernel_rfl) rfl Tryz.underlying34 rfl
theorem fd_36_2 : FdOk Tryz.prog Un 36 2 2 34 (.list .str) := ⟨⟨_, _, Tryz.underlying36, rfl, rfl, rfl⟩, ty_34⟩
theorem fd_36_3 : FdOk Tryz.prog Un 36 3 3 34 (.list .str) := ⟨⟨_, _, Tryz.underlying36, rfl, rfl, rfl⟩, ty_34⟩
theorem fd_36_4 : FdOk Tryz.prog Un 36 4 4 34 (.list .str) := ⟨⟨_, _, Tryz.underlying36, rfl, rfl, rfl⟩, ty_34⟩
theorem fd_60_0 : FdOk Tryz.prog Un 60 0 0 3 (.int .i64) := ⟨⟨_, _, Tryz.underlying60, rfl, rfl, rfl⟩, ty_3⟩
theorem fd_60_1 : FdOk Tryz.prog Un 60 1 1 9 .str := ⟨⟨_, _, Tryz.underlying60, rfl, rfl, rfl⟩, ty_9⟩
theorem fd_62_0 : FdOk Tryz.prog Un 62 0 0 34 (.list .str) := ⟨⟨_, _, Tryz.underlying62, rfl, rfl, rfl⟩, ty_34⟩
theorem fd_62_1 : FdOk Tryz.prog Un 62 1 1 34 (.list .str) := ⟨⟨_, _, Tryz.underlying62, rfl, rfl, rfl⟩, ty_34⟩
theorem ty_60 : TyOk Tryz.prog Un 60 (.named 4) := tyOk_mk (c := 2) (by kernel_rfl) rfl Tryz.underlying60 rfl
theorem fd_62_2 : FdOk Tryz.prog Un 62 2 2 60 (.named 4) := ⟨⟨_, _, Tryz.underlying62, rfl, rfl, rfl⟩, ty_60⟩
theorem fd_62_3 : FdOk Tryz.prog Un 62 3 4 9 .str := ⟨⟨_, _, Tryz.underlying62, rfl, rfl, rfl⟩, ty_9⟩
theorem fd_62_4 : FdOk Tryz.prog Un 62 4 5 9 .str := ⟨⟨_, _, Tryz.underlying62, rfl, rfl, rfl⟩, ty_9⟩
theorem fd_62_5 : FdOk Tryz.prog Un 62 5 6 3 (.int .i64) := ⟨⟨_, _, Tryz.underlying62, rfl, rfl, rfl⟩, ty_3⟩
theorem ty_22 : TyOk Tryz.prog Un 22 (.list (.named 3)) := tyOk_mk (c := 1) (by kernel_rfl) rfl Tryz.underlying22 rfl
theorem fd_86_0 : FdOk Tryz.prog Un 86 0 0 22 (.list (.named 3)) := ⟨⟨_, _, Tryz.underlying86, rfl, rfl, rfl⟩, ty_22⟩
theorem ty_64 : TyOk Tryz.prog Un 64 (.list (.int .i64)) := tyOk_mk (c := 1) (by kernel_rfl) rfl Tryz.underlying64 rfl
theorem fd_86_1 : FdOk Tryz.prog Un 86 1 1 64 (.list (.int .i64)) := ⟨⟨_, _, Tryz.underlying86, rfl, rfl, rfl⟩, ty_64⟩
theorem fd_201_0 : FdOk Tryz.prog Un 201 0 0 3 (.int .i64) := ⟨⟨_, _, Tryz.underlying201, rfl, rfl, rfl⟩, ty_3⟩
theorem fd_201_1 : FdOk Tryz.prog Un 201 1 1 3 (.int .i64) := ⟨⟨_, _, Tryz.underlying201, rfl, rfl, rfl⟩, ty_3⟩
theorem ty_198 : TyOk Tryz.prog Un 198 (.arr 4 (.int .u64)) := tyOk_mk (c := 4) (by kernel_rfl) rfl Tryz.underlying198 rfl
theorem fd_201_2 : FdOk Tryz.prog Un 201 2 2 198 (.arr 4 (.int .u64)) := ⟨⟨_, _, Tryz.underlying201, rfl, rfl, rfl⟩, ty_198⟩
theorem ty_199 : TyOk Tryz.prog Un 199 (.list (.named 16)) := tyOk_mk (c := 1) (by kernel_rfl) rfl Tryz.underlying199 rfl
theorem fd_201_3 : FdOk Tryz.prog Un 201 3 6 199 (.list (.named 16)) := ⟨⟨_, _, Tryz.underlying201, rfl, rfl, rfl⟩, ty_199⟩
theorem fd_223_0 : FdOk Tryz.prog Un 223 0 0 9 .str := ⟨⟨_, _, Tryz.underlying223, rfl, rfl, rfl⟩, ty_9⟩
theorem fd_223_1 : FdOk Tryz.prog Un 223 1 1 3 (.int .i64) := ⟨⟨_, _, Tryz.underlying223, rfl, rfl, rfl⟩, ty_3⟩
theorem fd_223_2 : FdOk Tryz.prog Un 223 2 2 3 (.int .i64) := ⟨⟨_, _, Tryz.underlying223, rfl, rfl, rfl⟩, ty_3⟩
theorem ty_4 : TyOk Tryz.prog Un 4 .bool := tyOk_mk (c := 1) (by kernel_rfl) rfl Tryz.underlying4 rfl
theorem fd_223_3 : FdOk Tryz.prog Un 223 3 3 4 .bool := ⟨⟨_, _, Tryz.underlying223, rfl, rfl, rfl⟩, ty_4⟩
theorem ty_162 : TyOk Tryz.prog Un 162 (.list (.named 14)) := tyOk_mk (c := 1) (by kernel_rfl) rfl Tryz.underlying162 rfl
theorem fd_228_0 : FdOk Tryz.prog Un 228 0 0 162 (.list (.named 14)) := ⟨⟨_, _, Tryz.underlying228, rfl, rfl, rfl⟩, ty_162⟩
theorem fd_231_0 : FdOk Tryz.prog Un 231 0 0 3 (.int .i64) := ⟨⟨_, _, Tryz.underlying231, rfl, rfl, rfl⟩, ty_3⟩
theorem fd_231_1 : FdOk Tryz.prog Un 231 1 1 3 (.int .i64) := ⟨⟨_, _, Tryz.underlying231, rfl, rfl, rfl⟩, ty_3⟩
theorem fd_231_2 : FdOk Tryz.prog Un 231 2 2 3 (.int .i64) := ⟨⟨_, _, Tryz.underlying231, rfl, rfl, rfl⟩, ty_3⟩
theorem fd_231_3 : FdOk Tryz.prog Un 231 3 3 198 (.arr 4 (.int .u64)) := ⟨⟨_, _, Tryz.underlying231, rfl, rfl, rfl⟩, ty_198⟩
theorem fd_237_0 : FdOk Tryz.prog Un 237 0 0 162 (.list (.named 14)) := ⟨⟨_, _, Tryz.underlying237, rfl, rfl, rfl⟩, ty_162⟩
theorem fd_237_1 : FdOk Tryz.prog Un 237 1 1 9 .str := ⟨⟨_, _, Tryz.underlying237, rfl, rfl, rfl⟩, ty_9⟩
theorem fd_237_2 : FdOk Tryz.prog Un 237 2 2 3 (.int .i64) := ⟨⟨_, _, Tryz.underlying237, rfl, rfl, rfl⟩, ty_3⟩
theorem fd_237_3 : FdOk Tryz.prog Un 237 3 3 64 (.list (.int .i64)) := ⟨⟨_, _, Tryz.underlying237, rfl, rfl, rfl⟩, ty_64⟩
theorem ty_234 : TyOk Tryz.prog Un 234 (.list (.named 19)) := tyOk_mk (c := 1) (by kernel_rfl) rfl Tryz.underlying234 rfl
theorem fd_237_4 : FdOk Tryz.prog Un 237 4 4 234 (.list (.named 19)) := ⟨⟨_, _, Tryz.underlying237, rfl, rfl, rfl⟩, ty_234⟩
theorem ty_235 : TyOk Tryz.prog Un 235 (.ptr (.arr 20 (.int .i64))) := tyOk_mk (c := 1) (by kernel_rfl) rfl Tryz.underlying235 rfl
theorem fd_237_5 : FdOk Tryz.prog Un 237 5 5 235 (.ptr (.arr 20 (.int .i64))) := ⟨⟨_, _, Tryz.underlying237, rfl, rfl, rfl⟩, ty_235⟩
theorem fd_257_0 : FdOk Tryz.prog Un 257 0 0 3 (.int .i64) := ⟨⟨_, _, Tryz.underlying257, rfl, rfl, rfl⟩, ty_3⟩
theorem ty_238 : TyOk Tryz.prog Un 238 (.arr 20 (.int .i64)) := tyOk_mk (c := 20) (by kernel_rfl) rfl Tryz.underlying238 rfl
theorem fd_257_1 : FdOk Tryz.prog Un 257 1 1 238 (.arr 20 (.int .i64)) := ⟨⟨_, _, Tryz.underlying257, rfl, rfl, rfl⟩, ty_238⟩
theorem hb_6 : HasBody Tryz.prog 6 := ⟨⟨_, Tryz.func6, by kernel_rfl, rfl⟩⟩
theorem hb_7 : HasBody Tryz.prog 7 := ⟨⟨_, Tryz.func7, by kernel_rfl, rfl⟩⟩
theorem hb_8 : HasBody Tryz.prog 8 := ⟨⟨_, Tryz.func8, by kernel_rfl, rfl⟩⟩
theorem hb_9 : HasBody Tryz.prog 9 := ⟨⟨_, Tryz.func9, by kernel_rfl, rfl⟩⟩
theorem hb_10 : HasBody Tryz.prog 10 := ⟨⟨_, Tryz.func10, by kernel_rfl, rfl⟩⟩
theorem hb_11 : HasBody Tryz.prog 11 := ⟨⟨_, Tryz.func11, by kernel_rfl, rfl⟩⟩
theorem hb_12 : HasBody Tryz.prog 12 := ⟨⟨_, Tryz.func12, by kernel_rfl, rfl⟩⟩
theorem hb_13 : HasBody Tryz.prog 13 := ⟨⟨_, Tryz.func13, by kernel_rfl, rfl⟩⟩
theorem hb_14 : HasBody Tryz.prog 14 := ⟨⟨_, Tryz.func14, by kernel_rfl, rfl⟩⟩
theorem hb_17 : HasBody Tryz.prog 17 := ⟨⟨_, Tryz.func17, by kernel_rfl, rfl⟩⟩
theorem hb_27 : HasBody Tryz.prog 27 := ⟨⟨_, Tryz.func27, by kernel_rfl, rfl⟩⟩
theorem hb_34 : HasBody Tryz.prog 34 := ⟨⟨_, Tryz.func34, by kernel_rfl, rfl⟩⟩
theorem hb_38 : HasBody Tryz.prog 38 := ⟨⟨_, Tryz.func38, by kernel_rfl, rfl⟩⟩
theorem hb_41 : HasBody Tryz.prog 41 := ⟨⟨_, Tryz.func41, by kernel_rfl, rfl⟩⟩
theorem hb_42 : HasBody Tryz.prog 42 := ⟨⟨_, Tryz.func42, by kernel_rfl, rfl⟩⟩
theorem hb_43 : HasBody Tryz.prog 43 := ⟨⟨_, Tryz.func43, by kernel_rfl, rfl⟩⟩
theorem hb_44 : HasBody Tryz.prog 44 := ⟨⟨_, Tryz.func44, by kernel_rfl, rfl⟩⟩
theorem hb_45 : HasBody Tryz.prog 45 := ⟨⟨_, Tryz.func45, by kernel_rfl, rfl⟩⟩
theorem hb_47 : HasBody Tryz.prog 47 := ⟨⟨_, Tryz.func47, by kernel_rfl, rfl⟩⟩
theorem hb_48 : HasBody Tryz.prog 48 := ⟨⟨_, Tryz.func48, by kernel_rfl, rfl⟩⟩
theorem hb_49 : HasBody Tryz.prog 49 := ⟨⟨_, Tryz.func49, by kernel_rfl, rfl⟩⟩
theorem hb_50 : HasBody Tryz.prog 50 := ⟨⟨_, Tryz.func50, by kernel_rfl, rfl⟩⟩
theorem hb_51 : HasBody Tryz.prog 51 := ⟨⟨_, Tryz.func51, by kernel_rfl, rfl⟩⟩
theorem hb_61 : HasBody Tryz.prog 61 := ⟨⟨_, Tryz.func61, by kernel_rfl, rfl⟩⟩
theorem hb_63 : HasBody Tryz.prog 63 := ⟨⟨_, Tryz.func63, by kernel_rfl, rfl⟩⟩
theorem hb_65 : HasBody Tryz.prog 65 := ⟨⟨_, Tryz.func65, by kernel_rfl, rfl⟩⟩
theorem hb_66 : HasBody Tryz.prog 66 := ⟨⟨_, Tryz.func66, by kernel_rfl, rfl⟩⟩
theorem hb_69 : HasBody Tryz.prog 69 := ⟨⟨_, Tryz.func69, by kernel_rfl, rfl⟩⟩
theorem hb_72 : HasBody Tryz.prog 72 := ⟨⟨_, Tryz.func72, by kernel_rfl, rfl⟩⟩
theorem hb_74 : HasBody Tryz.prog 74 := ⟨⟨_, Tryz.func74, by kernel_rfl, rfl⟩⟩
theorem hb_75 : HasBody Tryz.prog 75 := ⟨⟨_, Tryz.func75, by kernel_rfl, rfl⟩⟩
theorem hb_77 : HasBody Tryz.prog 77 := ⟨⟨_, Tryz.func77, by kernel_rfl, rfl⟩⟩
theorem hb_78 : HasBody Tryz.prog 78 := ⟨⟨_, Tryz.func78, by kernel_rfl, rfl⟩⟩
theorem hb_79 : HasBody Tryz.prog 79 := ⟨⟨_, Tryz.func79, by kernel_rfl, rfl⟩⟩
theorem hb_80 : HasBody Tryz.prog 80 := ⟨⟨_, Tryz.func80, by kernel_rfl, rfl⟩⟩
theorem hb_81 : HasBody Tryz.prog 81 := ⟨⟨_, Tryz.func81, by kernel_rfl, rfl⟩⟩
theorem hb_84 : HasBody Tryz.prog 84 := ⟨⟨_, Tryz.func84, by kernel_rfl, rfl⟩⟩
theorem hb_85 : HasBody Tryz.prog 85 := ⟨⟨_, Tryz.func85, by kernel_rfl, rfl⟩⟩
theorem hb_86 : HasBody Tryz.prog 86 := ⟨⟨_, Tryz.func86, by kernel_rfl, rfl⟩⟩
theorem hb_87 : HasBody Tryz.prog 87 := ⟨⟨_, Tryz.func87, by kernel_rfl, rfl⟩⟩
theorem hb_98 : HasBody Tryz.prog 98 := ⟨⟨_, Tryz.func98, by kernel_rfl, rfl⟩⟩
theorem hb_100 : HasBody Tryz.prog 100 := ⟨⟨_, Tryz.func100, by kernel_rfl, rfl⟩⟩
theorem hb_101 : HasBody Tryz.prog 101 := ⟨⟨_, Tryz.func101, by kernel_rfl, rfl⟩⟩
theorem hb_104 : HasBody Tryz.prog 104 := ⟨⟨_, Tryz.func104, by kernel_rfl, rfl⟩⟩
theorem hb_105 : HasBody Tryz.prog 105 := ⟨⟨_, Tryz.func105, by kernel_rfl, rfl⟩⟩
theorem hb_106 : HasBody Tryz.prog 106 := ⟨⟨_, Tryz.func106, by kernel_rfl, rfl⟩⟩
theorem hb_107 : HasBody Tryz.prog 107 := ⟨⟨_, Tryz.func107, by kernel_rfl, rfl⟩⟩
theorem hb_108 : HasBody Tryz.prog 108 := ⟨⟨_, Tryz.func108, by kernel_rfl, rfl⟩⟩
theorem hb_109 : HasBody Tryz.prog 109 := ⟨⟨_, Tryz.func109, by kernel_rfl, rfl⟩⟩
theorem hb_110 : HasBody Tryz.prog 110 := ⟨⟨_, Tryz.func110, by kernel_rfl, rfl⟩⟩
theorem hb_120 : HasBody Tryz.prog 120 := ⟨⟨_, Tryz.func120, by kernel_rfl, rfl⟩⟩
theorem hb_121 : HasBody Tryz.prog 121 := ⟨⟨_, Tryz.func121, by kernel_rfl, rfl⟩⟩
theorem hb_124 : HasBody Tryz.prog 124 := ⟨⟨_, Tryz.func124, by kernel_rfl, rfl⟩⟩
theorem hb_125 : HasBody Tryz.prog 125 := ⟨⟨_, Tryz.func125, by kernel_rfl, rfl⟩⟩
theorem hb_126 : HasBody Tryz.prog 126 := ⟨⟨_, Tryz.func126, by kernel_rfl, rfl⟩⟩
theorem hb_127 : HasBody Tryz.prog 127 := ⟨⟨_, Tryz.func127, by kernel_rfl, rfl⟩⟩
theorem hb_128 : HasBody Tryz.prog 128 := ⟨⟨_, Tryz.func128, by kernel_rfl, rfl⟩⟩
theorem hb_129 : HasBody Tryz.prog 129 := ⟨⟨_, Tryz.func129, by kernel_rfl, rfl⟩⟩
theorem hb_130 : HasBody Tryz.prog 130 := ⟨⟨_, Tryz.func130, by kernel_rfl, rfl⟩⟩
theorem hb_131 : HasBody Tryz.prog 131 := ⟨⟨_, Tryz.func131, by kernel_rfl, rfl⟩⟩
theorem hb_132 : HasBody Tryz.prog 132 := ⟨⟨_, Tryz.func132, by kernel_rfl, rfl⟩⟩
theorem hb_146 : HasBody Tryz.prog 146 := ⟨⟨_, Tryz.func146, by kernel_rfl, rfl⟩⟩
theorem hb_147 : HasBody Tryz.prog 147 := ⟨⟨_, Tryz.func147, by kernel_rfl, rfl⟩⟩
theorem hb_148 : HasBody Tryz.prog 148 := ⟨⟨_, Tryz.func148, by kernel_rfl, rfl⟩⟩
theorem hb_149 : HasBody Tryz.prog 149 := ⟨⟨_, Tryz.func149, by kernel_rfl, rfl⟩⟩
theorem hb_150 : HasBody Tryz.prog 150 := ⟨⟨_, Tryz.func150, by kernel_rfl, rfl⟩⟩
theorem hb_151 : HasBody Tryz.prog 151 := ⟨⟨_, Tryz.func151, by kernel_rfl, rfl⟩⟩
theorem hb_152 : HasBody Tryz.prog 152 := ⟨⟨_, Tryz.func152, by kernel_rfl, rfl⟩⟩
theorem hb_153 : HasBody Tryz.prog 153 := ⟨⟨_, Tryz.func153, by kernel_rfl, rfl⟩⟩
theorem hb_154 : HasBody Tryz.prog 154 := ⟨⟨_, Tryz.func154, by kernel_rfl, rfl⟩⟩
theorem hb_155 : HasBody Tryz.prog 155 := ⟨⟨_, Tryz.func155, by kernel_rfl, rfl⟩⟩
theorem hb_163 : HasBody Tryz.prog 163 := ⟨⟨_, Tryz.func163, by kernel_rfl, rfl⟩⟩
theorem hb_164 : HasBody Tryz.prog 164 := ⟨⟨_, Tryz.func164, by kernel_rfl, rfl⟩⟩
theorem hb_165 : HasBody Tryz.prog 165 := ⟨⟨_, Tryz.func165, by kernel_rfl, rfl⟩⟩
theorem hb_166 : HasBody Tryz.prog 166 := ⟨⟨_, Tryz.func166, by kernel_rfl, rfl⟩⟩
theorem hb_167 : HasBody Tryz.prog 167 := ⟨⟨_, Tryz.func167, by kernel_rfl, rfl⟩⟩
theorem hb_168 : HasBody Tryz.prog 168 := ⟨⟨_, Tryz.func168, by kernel_rfl, rfl⟩⟩
theorem hb_169 : HasBody Tryz.prog 169 := ⟨⟨_, Tryz.func169, by kernel_rfl, rfl⟩⟩
theorem hb_170 : HasBody Tryz.prog 170 := ⟨⟨_, Tryz.func170, by kernel_rfl, rfl⟩⟩
theorem hb_171 : HasBody Tryz.prog 171 := ⟨⟨_, Tryz.func171, by kernel_rfl, rfl⟩⟩
theorem hb_172 : HasBody Tryz.prog 172 := ⟨⟨_, Tryz.func172, by kernel_rfl, rfl⟩⟩
theorem hb_173 : HasBody Tryz.prog 173 := ⟨⟨_, Tryz.func173, by kernel_rfl, rfl⟩⟩
theorem hb_174 : HasBody Tryz.prog 174 := ⟨⟨_, Tryz.func174, by kernel_rfl, rfl⟩⟩
theorem hb_175 : HasBody Tryz.prog 175 := ⟨⟨_, Tryz.func175, by kernel_rfl, rfl⟩⟩
theorem hb_177 : HasBody Tryz.prog 177 := ⟨⟨_, Tryz.func177, by kernel_rfl, rfl⟩⟩
theorem hb_178 : HasBody Tryz.prog 178 := ⟨⟨_, Tryz.func178, by kernel_rfl, rfl⟩⟩
theorem hb_179 : HasBody Tryz.prog 179 := ⟨⟨_, Tryz.func179, by kernel_rfl, rfl⟩⟩
theorem hb_180 : HasBody Tryz.prog 180 := ⟨⟨_, Tryz.func180, by kernel_rfl, rfl⟩⟩
theorem hb_181 : HasBody Tryz.prog 181 := ⟨⟨_, Tryz.func181, by kernel_rfl, rfl⟩⟩
theorem hb_182 : HasBody Tryz.prog 182 := ⟨⟨_, Tryz.func182, by kernel_rfl, rfl⟩⟩
theorem hb_183 : HasBody Tryz.prog 183 := ⟨⟨_, Tryz.func183, by kernel_rfl, rfl⟩⟩
theorem hb_184 : HasBody Tryz.prog 184 := ⟨⟨_, Tryz.func184, by kernel_rfl, rfl⟩⟩
theorem hb_185 : HasBody Tryz.prog 185 := ⟨⟨_, Tryz.func185, by kernel_rfl, rfl⟩⟩
theorem hb_186 : HasBody Tryz.prog 186 := ⟨⟨_, Tryz.func186, by kernel_rfl, rfl⟩⟩
theorem hb_187 : HasBody Tryz.prog 187 := ⟨⟨_, Tryz.func187, by kernel_rfl, rfl⟩⟩
theorem hb_188 : HasBody Tryz.prog 188 := ⟨⟨_, Tryz.func188, by kernel_rfl, rfl⟩⟩
theorem hb_189 : HasBody Tryz.prog 189 := ⟨⟨_, Tryz.func189, by kernel_rfl, rfl⟩⟩
theorem hb_190 : HasBody Tryz.prog 190 := ⟨⟨_, Tryz.func190, by kernel_rfl, rfl⟩⟩
theorem hb_191 : HasBody Tryz.prog 191 := ⟨⟨_, Tryz.func191, by kernel_rfl, rfl⟩⟩
theorem hb_192 : HasBody Tryz.prog 192 := ⟨⟨_, Tryz.func192, by kernel_rfl, rfl⟩⟩
theorem hb_193 : HasBody Tryz.prog 193 := ⟨⟨_, Tryz.func193, by kernel_rfl, rfl⟩⟩
theorem hb_194 : HasBody Tryz.prog 194 := ⟨⟨_, Tryz.func194, by kernel_rfl, rfl⟩⟩
theorem lays_36 : lays Tryz.prog 36 = some ([.int .i64 0, .string ByteArray.empty, .slice none 0 0, .slice none 0 0, .slice none 0 0], (fun i => ([(0, 1), (1, 1), (2, 1), (3, 1), (4, 1)] : List (Nat × Nat)).toArray[i]?)) := by kernel_rfl
theorem lays_62 : lays Tryz.prog 62 = some ([.slice none 0 0, .slice none 0 0, .int .i64 0, .string ByteArray.empty, .string ByteArray.empty, .string ByteArray.empty, .int .i64 0], (fun i => ([(0, 1), (1, 1), (2, 2), (4, 1), (5, 1), (6, 1)] : List (Nat × Nat)).toArray[i]?)) := by kernel_rfl
theorem lays_86 : lays Tryz.prog 86 = some ([.slice none 0 0, .slice none 0 0], (fun i => ([(0, 1), (1, 1)] : List (Nat × Nat)).toArray[i]?)) := by kernel_rfl
theorem lays_90 : lays Tryz.prog 90 = some ([.string ByteArray.empty, .int .i64 0, .nilIface], (fun i => ([(0, 1), (1, 1), (2, 1)] : List (Nat × Nat)).toArray[i]?)) := by kernel_rfl
theorem lays_198 : lays Tryz.prog 198 = some ([.int .u64 0, .int .u64 0, .int .u64 0, .int .u64 0], (fun i => some (i * 1, 1))) := by kernel_rfl
theorem lays_201 : lays Tryz.prog 201 = some ([.int .i64 0, .int .i64 0, .int .u64 0, .int .u64 0, .int .u64 0, .int .u64 0, .slice none 0 0], (fun i => ([(0, 1), (1, 1), (2, 4), (6, 1)] : List (Nat × Nat)).toArray[i]?)) := by kernel_rfl
theorem lays_223 : lays Tryz.prog 223 = some ([.string ByteArray.empty, .int .i64 0, .int .i64 0, .bool false], (fun i => ([(0, 1), (1, 1), (2, 1), (3, 1)] : List (Nat × Nat)).toArray[i]?)) := by kernel_rfl
theorem lays_231 : lays Tryz.prog 231 = some ([.int .i64 0, .int .i64 0, .int .i64 0, .int .u64 0, .int .u64 0, .int .u64 0, .int .u64 0], (fun i => ([(0, 1), (1, 1), (2, 1), (3, 4)] : List (Nat × Nat)).toArray[i]?)) := by kernel_rfl
theorem lays_237 : lays Tryz.prog 237 = some ([.slice none 0 0, .string ByteArray.empty, .int .i64 0, .slice none 0 0, .slice none 0 0, .pointer none], (fun i => ([(0, 1), (1, 1), (2, 1), (3, 1), (4, 1), (5, 1)] : List (Nat × Nat)).toArray[i]?)) := by kernel_rfl
theorem lays_257 : lays Tryz.prog 257 = some ([.int .i64 0, .int .i64 0, .int .i64 0, .int .i64 0, .int .i64 0, .int .i64 0, .int .i64 0, .int .i64 0, .int .i64 0, .int .i64 0, .int .i64 0, .int .i64 0, .int .i64 0, .int .i64 0, .int .i64 0, .int .i64 0, .int .i64 0, .int .i64 0, .int .i64 0, .int .i64 0, .int .i64 0], (fun i => ([(0, 1), (1, 20)] : List (Nat × Nat)).toArray[i]?)) := by kernel_rfl
theorem ty_62 : TyOk Tryz.prog Un 62 (.named 3) := tyOk_mk (c := 7) (by kernel_rfl) rfl Tryz.underlying62 rfl
theorem sl_22 : SlOk Tryz.prog Un 22 62 (.named 3) := ⟨Tryz.underlying22, ty_62⟩
theorem row_22 : RowOk Tryz.prog Un 22 62 (.named 3) 112 := rowOk_mk (c := 7) sl_22 (by kernel_rfl) rfl (by decide)
theorem ty_36 : TyOk Tryz.prog Un 36 (.named 5) := tyOk_mk (c := 5) (by kernel_rfl) rfl Tryz.underlying36 rfl
theorem sl_30 : SlOk Tryz.prog Un 30 36 (.named 5) := ⟨Tryz.underlying30, ty_36⟩
theorem row_30 : RowOk Tryz.prog Un 30 36 (.named 5) 96 := rowOk_mk (c := 5) sl_30 (by kernel_rfl) rfl (by decide)
theorem sl_34 : SlOk Tryz.prog Un 34 9 .str := ⟨Tryz.underlying34, ty_9⟩
theorem row_34 : RowOk Tryz.prog Un 34 9 .str 16 := rowOk_mk (c := 1) sl_34 (by kernel_rfl) rfl (by decide)
theorem sl_64 : SlOk Tryz.prog Un 64 3 (.int .i64) := ⟨Tryz.underlying64, ty_3⟩
theorem row_64 : RowOk Tryz.prog Un 64 3 (.int .i64) 8 := rowOk_mk (c := 1) sl_64 (by kernel_rfl) rfl (by decide)
theorem ty_27 : TyOk Tryz.prog Un 27 .err := tyOk_mk (c := 1) (by kernel_rfl) rfl Tryz.underlying27 rfl
theorem sl_91 : SlOk Tryz.prog Un 91 27 .err := ⟨Tryz.underlying91, ty_27⟩
theorem row_91 : RowOk Tryz.prog Un 91 27 .err 16 := rowOk_mk (c := 1) sl_91 (by kernel_rfl) rfl (by decide)
theorem sl_131 : SlOk Tryz.prog Un 131 34 (.list .str) := ⟨Tryz.underlying131, ty_34⟩
theorem row_131 : RowOk Tryz.prog Un 131 34 (.list .str) 24 := rowOk_mk (c := 1) sl_131 (by kernel_rfl) rfl (by decide)
theorem ty_231 : TyOk Tryz.prog Un 231 (.named 14) := tyOk_mk (c := 7) (by kernel_rfl) rfl Tryz.underlying231 rfl
theorem sl_162 : SlOk Tryz.prog Un 162 231 (.named 14) := ⟨Tryz.underlying162, ty_231⟩
theorem row_162 : RowOk Tryz.prog Un 162 231 (.named 14) 56 := rowOk_mk (c := 7) sl_162 (by kernel_rfl) rfl (by decide)
theorem ty_201 : TyOk Tryz.prog Un 201 (.named 16) := tyOk_mk (c := 7) (by kernel_rfl) rfl Tryz.underlying201 rfl
theorem sl_199 : SlOk Tryz.prog Un 199 201 (.named 16) := ⟨Tryz.underlying199, ty_201⟩
theorem row_199 : RowOk Tryz.prog Un 199 201 (.named 16) 72 := rowOk_mk (c := 7) sl_199 (by kernel_rfl) rfl (by decide)
theorem ty_5 : TyOk Tryz.prog Un 5 (.int .u8) := tyOk_mk (c := 1) (by kernel_rfl) rfl Tryz.underlying5 rfl
theorem sl_208 : SlOk Tryz.prog Un 208 5 (.int .u8) := ⟨Tryz.underlying208, ty_5⟩
theorem row_208 : RowOk Tryz.prog Un 208 5 (.int .u8) 1 := rowOk_mk (c := 1) sl_208 (by kernel_rfl) rfl (by decide)
theorem ty_257 : TyOk Tryz.prog Un 257 (.named 19) := tyOk_mk (c := 21) (by kernel_rfl) rfl Tryz.underlying257 rfl
theorem sl_234 : SlOk Tryz.prog Un 234 257 (.named 19) := ⟨Tryz.underlying234, ty_257⟩
theorem row_234 : RowOk Tryz.prog Un 234 257 (.named 19) 168 := rowOk_mk (c := 21) sl_234 (by kernel_rfl) rfl (by decide)
theorem ty_86 : TyOk Tryz.prog Un 86 (.named 7) := tyOk_mk (c := 2) (by kernel_rfl) rfl Tryz.underlying86 rfl
theorem ty_90 : TyOk Tryz.prog Un 90 (.named 8) := tyOk_mk (c := 3) (by kernel_rfl) rfl Tryz.underlying90 rfl
theorem ty_102 : TyOk Tryz.prog Un 102 (.int .u64) := tyOk_mk (c := 1) (by kernel_rfl) rfl Tryz.underlying102 rfl
theorem ty_223 : TyOk Tryz.prog Un 223 (.named 17) := tyOk_mk (c := 4) (by kernel_rfl) rfl Tryz.underlying223 rfl
theorem ty1_25 : TyOk Tryz.prog Un 25 .bool := tyOk_mk (c := 1) (by kernel_rfl) rfl Tryz.underlying25 rfl
theorem ty2_237 : TyOk Tryz.prog Un 237 (.arr 6 .bool) := tyOk_mk (c := 6) (by kernel_rfl) rfl Tryz.underlying237 rfl
theorem z0_3 : ZeroOk Tryz.prog Un 3 (.int .i64) (0 : Int) := zeroOk_int (by kernel_rfl)
theorem z8_5 : ∃ i, Tryz.prog.info? 5 = some i ∧ i.zero = some (.int .u8 0) := z8_mk (by kernel_rfl)
noncomputable def TB : Tab Un where
  un := Tryz.prog.underlying
  ty := [(3, .int .i64), (4, .bool), (5, .int .u8), (9, .str), (22, .list (.named 3)), (27, .err), (34, .list .str), (36, .named 5), (60, .named 4), (62, .named 3), (64, .list (.int .i64)), (86, .named 7), (90, .named 8), (102, .int .u64), (162, .list (.named 14)), (198, .arr 4 (.int .u64)), (199, .list (.named 16)), (201, .named 16), (223, .named 17), (231, .named 14), (234, .list (.named 19)), (235, .ptr (.arr 20 (.int .i64))), (238, .arr 20 (.int .i64)), (257, .named 19), (25, .bool), (237, .arr 6 .bool)]
  sl := [(22, 62, .named 3), (30, 36, .named 5), (34, 9, .str), (64, 3, .int .i64), (91, 27, .err), (131, 34, .list .str), (162, 231, .named 14), (199, 201, .named 16), (208, 5, .int .u8), (234, 257, .named 19)]
  fd := [(36, 0, 0, .int .i64), (36, 1, 1, .str), (36, 2, 2, .list .str), (36, 3, 3, .list .str), (36, 4, 4, .list .str), (60, 0, 0, .int .i64), (60, 1, 1, .str), (62, 0, 0, .list .str), (62, 1, 1, .list .str), (62, 2, 2, .named 4), (62, 3, 4, .str), (62, 4, 5, .str), (62, 5, 6, .int .i64), (86, 0, 0, .list (.named 3)), (86, 1, 1, .list (.int .i64)), (201, 0, 0, .int .i64), (201, 1, 1, .int .i64), (201, 2, 2, .arr 4 (.int .u64)), (201, 3, 6, .list (.named 16)), (223, 0, 0, .str), (223, 1, 1, .int .i64), (223, 2, 2, .int .i64), (223, 3, 3, .bool), (228, 0, 0, .list (.named 14)), (231, 0, 0, .int .i64), (231, 1, 1, .int .i64), (231, 2, 2, .int .i64), (231, 3, 3, .arr 4 (.int .u64)), (237, 0, 0, .list (.named 14)), (237, 1, 1, .str), (237, 2, 2, .int .i64), (237, 3, 3, .list (.int .i64)), (237, 4, 4, .list (.named 19)), (237, 5, 5, .ptr (.arr 20 (.int .i64))), (257, 0, 0, .int .i64), (257, 1, 1, .arr 20 (.int .i64))]
  ro := [(22, 62, .named 3, 112), (30, 36, .named 5, 96), (34, 9, .str, 16), (64, 3, .int .i64, 8), (91, 27, .err, 16), (131, 34, .list .str, 24), (162, 231, .named 14, 56), (199, 201, .named 16, 72), (208, 5, .int .u8, 1), (234, 257, .named 19, 168)]
  zd := [(3, .p (.int .i64) (0 : Int))]
  az := [(36, [.p (.int .i64) (0 : Int), .p .str ([] : List UInt8), .p (.list .str) ([] : List (List UInt8)), .lit (.slice none 0 0), .p (.list .str) ([] : List (List UInt8))]), (62, [.p (.list .str) ([] : List (List UInt8)), .p (.list .str) ([] : List (List UInt8)), .p (.int .i64) (0 : Int), .p .str ([] : List UInt8), .p .str ([] : List UInt8), .p .str ([] : List UInt8), .p (.int .i64) (0 : Int)]), (198, [.p (.arr 4 (.int .u64)) ((List.replicate 4 (0 : Int)) : List Int)]), (201, [.p (.int .i64) (0 : Int), .p (.int .i64) (0 : Int), .p (.arr 4 (.int .u64)) ((List.replicate 4 (0 : Int)) : List Int), .p (.list (.named 16)) ([] : List T_rex_Node)]), (228, [.lit (.slice none 0 0)]), (231, [.p (.int .i64) (0 : Int), .p (.int .i64) (0 : Int), .p (.int .i64) (0 : Int), .p (.arr 4 (.int .u64)) ((List.replicate 4 (0 : Int)) : List Int)]), (238, [.p (.arr 20 (.int .i64)) ((List.replicate 20 (0 : Int)) : List Int)]), (257, [.p (.int .i64) (0 : Int), .p (.arr 20 (.int .i64)) ((List.replicate 20 (0 : Int)) : List Int)])]
  bz := [(36, [.p (.int .i64) (0 : Int), .p .str ([] : List UInt8), .p (.list .str) ([] : List (List UInt8)), .lit (.slice none 0 0), .p (.list .str) ([] : List (List UInt8))], [(0, 1, .int .i64), (1, 1, .str), (2, 1, .list .str), (3, 1, .list .str), (4, 1, .list .str)]), (62, [.p (.list .str) ([] : List (List UInt8)), .p (.list .str) ([] : List (List UInt8)), .p (.int .i64) (0 : Int), .p .str ([] : List UInt8), .p .str ([] : List UInt8), .p .str ([] : List UInt8), .p (.int .i64) (0 : Int)], [(0, 1, .list .str), (1, 1, .list .str), (2, 2, .named 4), (4, 1, .str), (5, 1, .str), (6, 1, .int .i64)]), (86, [.lit (.slice none 0 0), .lit (.slice none 0 0)], [(0, 1, .list (.named 3)), (1, 1, .list (.int .i64))]), (90, [.p .str ([] : List UInt8), .p (.int .i64) (0 : Int), .p .err (0 : Nat)], [(0, 1, .str), (1, 1, .int .i64), (2, 1, .err)]), (198, [.p (.arr 4 (.int .u64)) ((List.replicate 4 (0 : Int)) : List Int)], [(0, 1, .int .u64), (1, 1, .int .u64), (2, 1, .int .u64), (3, 1, .int .u64)]), (201, [.p (.int .i64) (0 : Int), .p (.int .i64) (0 : Int), .p (.arr 4 (.int .u64)) ((List.replicate 4 (0 : Int)) : List Int), .p (.list (.named 16)) ([] : List T_rex_Node)], [(0, 1, .int .i64), (1, 1, .int .i64), (2, 4, .arr 4 (.int .u64)), (6, 1, .list (.named 16))]), (223, [.p .str ([] : List UInt8), .p (.int .i64) (0 : Int), .p (.int .i64) (0 : Int), .p .bool false], [(0, 1, .str), (1, 1, .int .i64), (2, 1, .int .i64), (3, 1, .bool)]), (231, [.p (.int .i64) (0 : Int), .p (.int .i64) (0 : Int), .p (.int .i64) (0 : Int), .p (.arr 4 (.int .u64)) ((List.replicate 4 (0 : Int)) : List Int)], [(0, 1, .int .i64), (1, 1, .int .i64), (2, 1, .int .i64), (3, 4, .arr 4 (.int .u64))]), (237, [.p (.list (.named 14)) ([] : List T_prog_Instr), .p .str ([] : List UInt8), .p (.int .i64) (0 : Int), .lit (.slice none 0 0), .lit (.slice none 0 0), .p (.ptr (.arr 20 (.int .i64))) none], [(0, 1, .list (.named 14)), (1, 1, .str), (2, 1, .int .i64), (3, 1, .list (.int .i64)), (4, 1, .list (.named 19)), (5, 1, .ptr (.arr 20 (.int .i64)))]), (257, [.p (.int .i64) (0 : Int), .p (.arr 20 (.int .i64)) ((List.replicate 20 (0 : Int)) : List Int)], [(0, 1, .int .i64), (1, 20, .arr 20 (.int .i64))])]
  hb := [6, 7, 8, 9, 10, 11, 12, 13, 14, 17, 27, 34, 38, 41, 42, 43, 44, 45, 47, 48, 49, 50, 51, 61, 63, 65, 66, 69, 72, 74, 75, 77, 78, 79, 80, 81, 84, 85, 86, 87, 98, 100, 101, 104, 105, 106, 107, 108, 109, 110, 120, 121, 124, 125, 126, 127, 128, 129, 130, 131, 132, 146, 147, 148, 149, 150, 151, 152, 153, 154, 155, 163, 164, 165, 166, 167, 168, 169, 170, 171, 172, 173, 174, 175, 177, 178, 179, 180, 181, 182, 183, 184, 185, 186, 187, 188, 189, 190, 191, 192, 193, 194]
theorem TBok : TbOk Tryz.prog Un TB where
  un := fun _ _ h => h
  ty := (.c ty_3 (.c ty_4 (.c ty_5 (.c ty_9 (.c ty_22 (.c ty_27 (.c ty_34 (.c ty_36 (.c ty_60 (.c ty_62 (.c ty_64 (.c ty_86 (.c ty_90 (.c ty_102 (.c ty_162 (.c ty_198 (.c ty_199 (.c ty_201 (.c ty_223 (.c ty_231 (.c ty_234 (.c ty_235 (.c ty_238 (.c ty_257 (.c ty1_25 (.c ty2_237 AllP.z))))))))))))))))))))))))))
  sl := (.c sl_22 (.c sl_30 (.c sl_34 (.c sl_64 (.c sl_91 (.c sl_131 (.c sl_162 (.c sl_199 (.c sl_208 (.c sl_234 AllP.z))))))))))
  fd := (.c ⟨_, fd_36_0⟩ (.c ⟨_, fd_36_1⟩ (.c ⟨_, fd_36_2⟩ (.c ⟨_, fd_36_3⟩ (.c ⟨_, fd_36_4⟩ (.c ⟨_, fd_60_0⟩ (.c ⟨_, fd_60_1⟩ (.c ⟨_, fd_62_0⟩ (.c ⟨_, fd_62_1⟩ (.c ⟨_, fd_62_2⟩ (.c ⟨_, fd_62_3⟩ (.c ⟨_, fd_62_4⟩ (.c ⟨_, fd_62_5⟩ (.c ⟨_, fd_86_0⟩ (.c ⟨_, fd_86_1⟩ (.c ⟨_, fd_201_0⟩ (.c ⟨_, fd_201_1⟩ (.c ⟨_, fd_201_2⟩ (.c ⟨_, fd_201_3⟩ (.c ⟨_, fd_223_0⟩ (.c ⟨_, fd_223_1⟩ (.c ⟨_, fd_223_2⟩ (.c ⟨_, fd_223_3⟩ (.c ⟨_, fd_228_0⟩ (.c ⟨_, fd_231_0⟩ (.c ⟨_, fd_231_1⟩ (.c ⟨_, fd_231_2⟩ (.c ⟨_, fd_231_3⟩ (.c ⟨_, fd_237_0⟩ (.c ⟨_, fd_237_1⟩ (.c ⟨_, fd_237_2⟩ (.c ⟨_, fd_237_3⟩ (.c ⟨_, fd_237_4⟩ (.c ⟨_, fd_237_5⟩ (.c ⟨_, fd_257_0⟩ (.c ⟨_, fd_257_1⟩ AllP.z))))))))))))))))))))))))))))))))))))
  ro := (.c row_22 (.c row_30 (.c row_34 (.c row_64 (.c row_91 (.c row_131 (.c row_162 (.c row_199 (.c row_208 (.c row_234 AllP.z))))))))))
  mp := AllP.z
  zd := (.c z0_3 AllP.z)
  az := (.c az_36 (.c az_62 (.c az_198 (.c az_201 (.c az_228 (.c az_231 (.c az_238 (.c az_257 AllP.z))))))))
  bz := (.c ⟨_, _, lays_36, (.data (fun _ _ _ => .int _ _) (.data (fun _ _ _ => rd_str0) (.data (fun _ _ _ => .lnil _) (.lit rfl (.data (fun _ _ _ => .lnil _) .nil))))), by kernel_rfl⟩ (.c ⟨_, _, lays_62, (.data (fun _ _ _ => .lnil _) (.data (fun _ _ _ => .lnil _) (.data (fun _ _ _ => .int _ _) (.data (fun _ _ _ => rd_str0) (.data (fun _ _ _ => rd_str0) (.data (fun _ _ _ => rd_str0) (.data (fun _ _ _ => .int _ _) .nil))))))), by kernel_rfl⟩ (.c ⟨_, _, lays_86, (.lit rfl (.lit rfl .nil)), by kernel_rfl⟩ (.c ⟨_, _, lays_90, (.data (fun _ _ _ => rd_str0) (.data (fun _ _ _ => .int _ _) (.data (fun _ _ _ => .err0) .nil))), by kernel_rfl⟩ (.c ⟨_, _, lays_198, (.data (rd_zeros _ _) .nil), by kernel_rfl⟩ (.c ⟨_, _, lays_201, (.data (fun _ _ _ => .int _ _) (.data (fun _ _ _ => .int _ _) (.data (rd_zeros _ _) (.data (fun _ _ _ => .lnil _) .nil)))), by kernel_rfl⟩ (.c ⟨_, _, lays_223, (.data (fun _ _ _ => rd_str0) (.data (fun _ _ _ => .int _ _) (.data (fun _ _ _ => .int _ _) (.data (fun _ _ _ => .bool _) .nil)))), by kernel_rfl⟩ (.c ⟨_, _, lays_231, (.data (fun _ _ _ => .int _ _) (.data (fun _ _ _ => .int _ _) (.data (fun _ _ _ => .int _ _) (.data (rd_zeros _ _) .nil)))), by kernel_rfl⟩ (.c ⟨_, _, lays_237, (.data (fun _ _ _ => .lnil _) (.data (fun _ _ _ => rd_str0) (.data (fun _ _ _ => .int _ _) (.lit rfl (.lit rfl (.data (fun _ _ _ => .pnil _) .nil)))))), by kernel_rfl⟩ (.c ⟨_, _, lays_257, (.data (fun _ _ _ => .int _ _) (.data (rd_zeros _ _) .nil)), by kernel_rfl⟩ AllP.z))))))))))
  hb := (.c hb_6 (.c hb_7 (.c hb_8 (.c hb_9 (.c hb_10 (.c hb_11 (.c hb_12 (.c hb_13 (.c hb_14 (.c hb_17 (.c hb_27 (.c hb_34 (.c hb_38 (.c hb_41 (.c hb_42 (.c hb_43 (.c hb_44 (.c hb_45 (.c hb_47 (.c hb_48 (.c hb_49 (.c hb_50 (.c hb_51 (.c hb_61 (.c hb_63 (.c hb_65 (.c hb_66 (.c hb_69 (.c hb_72 (.c hb_74 (.c hb_75 (.c hb_77 (.c hb_78 (.c hb_79 (.c hb_80 (.c hb_81 (.c hb_84 (.c hb_85 (.c hb_86 (.c hb_87 (.c hb_98 (.c hb_100 (.c hb_101 (.c hb_104 (.c hb_105 (.c hb_106 (.c hb_107 (.c hb_108 (.c hb_109 (.c hb_110 (.c hb_120 (.c hb_121 (.c hb_124 (.c hb_125 (.c hb_126 (.c hb_127 (.c hb_128 (.c hb_129 (.c hb_130 (.c hb_131 (.c hb_132 (.c hb_146 (.c hb_147 (.c hb_148 (.c hb_149 (.c hb_150 (.c hb_151 (.c hb_152 (.c hb_153 (.c hb_154 (.c hb_155 (.c hb_163 (.c hb_164 (.c hb_165 (.c hb_166 (.c hb_167 (.c hb_168 (.c hb_169 (.c hb_170 (.c hb_171 (.c hb_172 (.c hb_173 (.c hb_174 (.c hb_175 (.c hb_177 (.c hb_178 (.c hb_179 (.c hb_180 (.c hb_181 (.c hb_182 (.c hb_183 (.c hb_184 (.c hb_185 (.c hb_186 (.c hb_187 (.c hb_188 (.c hb_189 (.c hb_190 (.c hb_191 (.c hb_192 (.c hb_193 (.c hb_194 AllP.z))))))))))))))))))))))))))))))))))))))))))))))))))))))))))))))))))))))))))))))))))))))))))))))))))))))
theorem rSC {O : Out} {B : Base} {id N : Nat} {ops : Array Oper} {st : St Un} {Q : PostQ Un} (x : RX Un O Tryz.prog ops) (ts ns : List Nat) (hN : B.n = N) (h1 : okS TB x st N = true) (h2 : obL TB x st = obR TB x st)  {st2 : St Un} (hcv : Conv Un O (nxS TB x st ts ns) st2) (hQ : Q .normal st2) : WpC Un O Tryz.prog B (.region id ops false) st Q := WpC.rS TBok x ts ns hN h1 h2 rfl hcv hQ
theorem rS {O : Out} {B : Base} {id N : Nat} {ops : Array Oper} {st : St Un} {Q : PostQ Un} (x : RX Un O Tryz.prog ops) (ts ns : List Nat) (hN : B.n = N) (h1 : okS TB x st N = true) (h2 : obL TB x st = obR TB x st)  (hQ : Q .normal (nxS TB x st ts ns)) : WpC Un O Tryz.prog B (.region id ops false) st Q := WpC.rS TBok x ts ns hN h1 h2 rfl (Conv.refl _) hQ
theorem rAC {O : Out} {B : Base} {id N : Nat} {ops : Array Oper} {st : St Un} {Q : PostQ Un} (x : RX Un O Tryz.prog ops) (ts ns : List Nat) (hN : B.n = N) (h1 : okS TB x st N = true) (h2 : obL TB x st = obR TB x st) (h4 : raS TB x st = true)  {st2 : St Un} (hcv : Conv Un O (nxS TB x st ts ns) st2) (hQ : Q .normal st2) : WpC Un O Tryz.prog B (.region id ops true) st Q := WpC.rA TBok mixed x ts ns hN h1 h2 h4 rfl hcv hQ
theorem rA {O : Out} {B : Base} {id N : Nat} {ops : Array Oper} {st : St Un} {Q : PostQ Un} (x : RX Un O Tryz.prog ops) (ts ns : List Nat) (hN : B.n = N) (h1 : okS TB x st N = true) (h2 : obL TB x st = obR TB x st) (h4 : raS TB x st = true)  (hQ : Q .normal (nxS TB x st ts ns)) : WpC Un O Tryz.prog B (.region id ops true) st Q := WpC.rA TBok mixed x ts ns hN h1 h2 h4 rfl (Conv.refl _) hQ
theorem cS {O : Out} {st : St Un} (l : List (CV Un O)) (h1 : cvOk l st = true) (h2 : cvL l st = cvR l st) : Conv Un O st (cvN l st) := Conv.S h1 h2
theorem tS : type_of% (@WpC.tS Un) := @WpC.tS Un
theorem eR {O : Out} {fn : Func} {c : CSpec Un} {st : St Un} (h1 : (resD TB st fn.results.toList).map resOf = some c.r) (h2 : (c.bs'.map fun x => lookA st.hp x.1) = c.bs'.map fun x => some x.2) : Go.AM.Ends Un O Tryz.prog fn c .ret st := ends_retS TBok h1 h2
theorem eN {O : Out} {fn : Func} {c : CSpec Un} {st : St Un} (h1 : (resD TB st fn.results.toList).map resOf = some c.r) (h2 : (c.bs'.map fun x => lookA st.hp x.1) = c.bs'.map fun x => some x.2) : Go.AM.Ends Un O Tryz.prog fn c .normal st := ends_normalS TBok h1 h2

theorem cvR : type_of% (@Conv.refl Un) := @Conv.refl Un
theorem cvK : type_of% (@Conv.keep Un) := @Conv.keep Un
theorem sqJ : type_of% (@WpC.seqJ Un) := @WpC.seqJ Un
theorem tnU : type_of% (@thenQ_normal Un) := @thenQ_normal Un
end Go.Proofs.YtpcobejkpbalcaaGreatDoor
