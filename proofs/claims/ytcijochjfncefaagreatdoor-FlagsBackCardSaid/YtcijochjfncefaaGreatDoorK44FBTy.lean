/- A part of a proof: FBTy. -/
import Derived.Test.YtcijochjfncefaaGreatDoorK44Am4
import Derived.Test.YtcijochjfncefaaGreatDoorProg
namespace Go.Proofs.YtcijochjfncefaaGreatDoor
open Go Go.AM
set_option linter.unusedVariables false
set_option linter.unusedSimpArgs false
set_option maxRecDepth 100000
set_option maxHeartbeats 4000000
structure T_runtime_boundsError where
  f_x : Int
  f_y : Int
  f_signed : Bool
  f_code : Int
  deriving Inhabited
structure T_runtime_errorAddressString where
  f_msg : List UInt8
  f_addr : Int
  deriving Inhabited
structure TR14V where
  fN : List UInt8
  f_Words : List (List UInt8)
  f_Level : Int
  f_Hidden : Bool
  deriving Inhabited
structure T_flags_Options where
  f_All : Bool
  f_Explain : Bool
  f_Ignore : Bool
  f_Keep : Bool
  f_Dry : Bool
  f_Touch : Bool
  f_News : List (List UInt8)
  f_Goals : List (List UInt8)
  f_File : List UInt8
  f_Nproc : Int
  f_Vars : List TR14V
  deriving Inhabited
structure TR31O where
  f_On : List Bool
  f_News : List (List UInt8)
  f_Goals : List (List UInt8)
  f_File : List UInt8
  f_Nproc : Int
  f_Vars : List TR14V
  deriving Inhabited
structure T_flags_reader where
  f_args : List (List UInt8)
  f_o : T_flags_Options
  deriving Inhabited
structure TW14A where
  fK : Int
  f_Var : TR14V
  deriving Inhabited
structure T_strconv_NumError where
  f_Func : List UInt8
  f_Num : List UInt8
  f_Err : Nat
  deriving Inhabited
structure T_utf8_acceptRange where
  f_lo : Int
  f_hi : Int
  deriving Inhabited
structure T_errors_errorString where
  f_s : List UInt8
  deriving Inhabited
structure T_reflectlite_ValueError where
  f_Method : List UInt8
  fK : Int
  deriving Inhabited
structure T_abi_UncommonType where
  f_PkgPath : Int
  f_Mcount : Int
  f_Xcount : Int
  f_Moff : Int
  f_blank4 : Int
  deriving Inhabited
structure T_abi_Method where
  fN : Int
  f_Mtyp : Int
  f_Ifn : Int
  f_Tfn : Int
  deriving Inhabited
def UnT : Nat → Type := fun n => match n with | 0 => T_runtime_boundsError | 1 => T_runtime_errorAddressString | 2 => Unit | 3 => TR14V | 4 => T_flags_Options | 5 => TR31O | 6 => T_flags_reader | 7 => TW14A | 8 => Unit | 9 => Unit | 10 => T_strconv_NumError | 11 => T_utf8_acceptRange | 12 => T_errors_errorString | 13 => Unit | 14 => Unit | 15 => Unit | 16 => T_reflectlite_ValueError | 17 => T_abi_UncommonType | 18 => T_abi_Method | _ + 19 => Unit
def UnB : Nat → Ty := fun n => match n with | 0 => (.pair (.int .i64) (.pair (.int .i64) (.pair .bool (.pair (.int .u8) .unit)))) | 1 => (.pair .str (.pair (.int .u64) .unit)) | 2 => .unit | 3 => (.pair .str (.pair (.list .str) (.pair (.int .i64) (.pair .bool .unit)))) | 4 => (.pair .bool (.pair .bool (.pair .bool (.pair .bool (.pair .bool (.pair .bool (.pair (.list .str) (.pair (.list .str) (.pair .str (.pair (.int .i64) (.pair (.list (.named 3)) .unit))))))))))) | 5 => (.pair (.arr 6 .bool) (.pair (.list .str) (.pair (.list .str) (.pair .str (.pair (.int .i64) (.pair (.list (.named 3)) .unit)))))) | 6 => (.pair (.list .str) (.pair (.named 4) .unit)) | 7 => (.pair (.int .i64) (.pair (.named 3) .unit)) | 8 => .unit | 9 => .unit | 10 => (.pair .str (.pair .str (.pair .err .unit))) | 11 => (.pair (.int .u8) (.pair (.int .u8) .unit)) | 12 => (.pair .str .unit) | 13 => .unit | 14 => .unit | 15 => .unit | 16 => (.pair .str (.pair (.int .u8) .unit)) | 17 => (.pair (.int .i32) (.pair (.int .u16) (.pair (.int .u16) (.pair (.int .u32) (.pair (.int .u32) .unit))))) | 18 => (.pair (.int .i32) (.pair (.int .i32) (.pair (.int .i32) (.pair (.int .i32) .unit)))) | _ + 19 => .unit
def UnOut : (n : Nat) → UnT n → (UnB n).den UnT := fun n => match n with | 0 => fun x => (x.f_x, x.f_y, x.f_signed, x.f_code, ()) | 1 => fun x => (x.f_msg, x.f_addr, ()) | 2 => fun _ => () | 3 => fun x => (x.fN, x.f_Words, x.f_Level, x.f_Hidden, ()) | 4 => fun x => (x.f_All, x.f_Explain, x.f_Ignore, x.f_Keep, x.f_Dry, x.f_Touch, x.f_News, x.f_Goals, x.f_File, x.f_Nproc, x.f_Vars, ()) | 5 => fun x => (x.f_On, x.f_News, x.f_Goals, x.f_File, x.f_Nproc, x.f_Vars, ()) | 6 => fun x => (x.f_args, x.f_o, ()) | 7 => fun x => (x.fK, x.f_Var, ()) | 8 => fun _ => () | 9 => fun _ => () | 10 => fun x => (x.f_Func, x.f_Num, x.f_Err, ()) | 11 => fun x => (x.f_lo, x.f_hi, ()) | 12 => fun x => (x.f_s, ()) | 13 => fun _ => () | 14 => fun _ => () | 15 => fun _ => () | 16 => fun x => (x.f_Method, x.fK, ()) | 17 => fun x => (x.f_PkgPath, x.f_Mcount, x.f_Xcount, x.f_Moff, x.f_blank4, ()) | 18 => fun x => (x.fN, x.f_Mtyp, x.f_Ifn, x.f_Tfn, ()) | _ + 19 => fun _ => ()
def UnInn : (n : Nat) → (UnB n).den UnT → UnT n := fun n => match n with | 0 => fun (x : Int × Int × Bool × Int × Unit) => (T_runtime_boundsError.mk x.1 x.2.1 x.2.2.1 x.2.2.2.1 : T_runtime_boundsError) | 1 => fun (x : (List UInt8) × Int × Unit) => (T_runtime_errorAddressString.mk x.1 x.2.1 : T_runtime_errorAddressString) | 2 => fun _ => () | 3 => fun (x : (List UInt8) × (List (List UInt8)) × Int × Bool × Unit) => (TR14V.mk x.1 x.2.1 x.2.2.1 x.2.2.2.1 : TR14V) | 4 => fun (x : Bool × Bool × Bool × Bool × Bool × Bool × (List (List UInt8)) × (List (List UInt8)) × (List UInt8) × Int × (List TR14V) × Unit) => (T_flags_Options.mk x.1 x.2.1 x.2.2.1 x.2.2.2.1 x.2.2.2.2.1 x.2.2.2.2.2.1 x.2.2.2.2.2.2.1 x.2.2.2.2.2.2.2.1 x.2.2.2.2.2.2.2.2.1 x.2.2.2.2.2.2.2.2.2.1 x.2.2.2.2.2.2.2.2.2.2.1 : T_flags_Options) | 5 => fun (x : (List Bool) × (List (List UInt8)) × (List (List UInt8)) × (List UInt8) × Int × (List TR14V) × Unit) => (TR31O.mk x.1 x.2.1 x.2.2.1 x.2.2.2.1 x.2.2.2.2.1 x.2.2.2.2.2.1 : TR31O) | 6 => fun (x : (List (List UInt8)) × T_flags_Options × Unit) => (T_flags_reader.mk x.1 x.2.1 : T_flags_reader) | 7 => fun (x : Int × TR14V × Unit) => (TW14A.mk x.1 x.2.1 : TW14A) | 8 => fun _ => () | 9 => fun _ => () | 10 => fun (x : (List UInt8) × (List UInt8) × Nat × Unit) => (T_strconv_NumError.mk x.1 x.2.1 x.2.2.1 : T_strconv_NumError) | 11 => fun (x : Int × Int × Unit) => (T_utf8_acceptRange.mk x.1 x.2.1 : T_utf8_acceptRange) | 12 => fun (x : (List UInt8) × Unit) => (T_errors_errorString.mk x.1 : T_errors_errorString) | 13 => fun _ => () | 14 => fun _ => () | 15 => fun _ => () | 16 => fun (x : (List UInt8) × Int × Unit) => (T_reflectlite_ValueError.mk x.1 x.2.1 : T_reflectlite_ValueError) | 17 => fun (x : Int × Int × Int × Int × Int × Unit) => (T_abi_UncommonType.mk x.1 x.2.1 x.2.2.1 x.2.2.2.1 x.2.2.2.2.1 : T_abi_UncommonType) | 18 => fun (x : Int × Int × Int × Int × Unit) => (T_abi_Method.mk x.1 x.2.1 x.2.2.1 x.2.2.2.1 : T_abi_Method) | _ + 19 => fun _ => ()
def UnW : Nat → Nat := fun n => match n with | 0 => 4 | 1 => 2 | 2 => 0 | 3 => 4 | 4 => 11 | 5 => 11 | 6 => 12 | 7 => 5 | 8 => 0 | 9 => 0 | 10 => 3 | 11 => 2 | 12 => 1 | 13 => 0 | 14 => 0 | 15 => 0 | 16 => 2 | 17 => 5 | 18 => 4 | _ + 19 => 0
def UnF : Nat → Bool := fun n => match n with | 0 => true | 1 => true | 2 => true | 3 => false | 4 => false | 5 => false | 6 => false | 7 => false | 8 => true | 9 => true | 10 => true | 11 => true | 12 => true | 13 => true | 14 => true | 15 => true | 16 => true | 17 => true | 18 => true | _ + 19 => true
theorem un_out_inn : ∀ n x, UnOut n (UnInn n x) = x := by
  intro n
  match n with
  | 0 => exact fun _ => rfl
  | 1 => exact fun _ => rfl
  | 2 => exact fun _ => rfl
  | 3 => exact fun _ => rfl
  | 4 => exact fun _ => rfl
  | 5 => exact fun _ => rfl
  | 6 => exact fun _ => rfl
  | 7 => exact fun _ => rfl
  | 8 => exact fun _ => rfl
  | 9 => exact fun _ => rfl
  | 10 => exact fun _ => rfl
  | 11 => exact fun _ => rfl
  | 12 => exact fun _ => rfl
  | 13 => exact fun _ => rfl
  | 14 => exact fun _ => rfl
  | 15 => exact fun _ => rfl
  | 16 => exact fun _ => rfl
  | 17 => exact fun _ => rfl
  | 18 => exact fun _ => rfl
  | _ + 19 => exact fun _ => rfl
theorem un_inn_out : ∀ n x, UnInn n (UnOut n x) = x := by
  intro n
  match n with
  | 0 => exact fun x => by cases x; rfl
  | 1 => exact fun x => by cases x; rfl
  | 2 => exact fun _ => rfl
  | 3 => exact fun x => by cases x; rfl
  | 4 => exact fun x => by cases x; rfl
  | 5 => exact fun x => by cases x; rfl
  | 6 => exact fun x => by cases x; rfl
  | 7 => exact fun x => by cases x; rfl
  | 8 => exact fun _ => rfl
  | 9 => exact fun _ => rfl
  | 10 => exact fun x => by cases x; rfl
  | 11 => exact fun x => by cases x; rfl
  | 12 => exact fun x => by cases x; rfl
  | 13 => exact fun _ => rfl
  | 14 => exact fun _ => rfl
  | 15 => exact fun _ => rfl
  | 16 => exact fun x => by cases x; rfl
  | 17 => exact fun x => by cases x; rfl
  | 18 => exact fun x => by cases x; rfl
  | _ + 19 => exact fun _ => rfl
theorem un_wd : ∀ n, (UnB n).width UnW = UnW n := by
  intro n
  match n with
  | 0 => rfl
  | 1 => rfl
  | 2 => rfl
  | 3 => rfl
  | 4 => rfl
  | 5 => rfl
  | 6 => rfl
  | 7 => rfl
  | 8 => rfl
  | 9 => rfl
  | 10 => rfl
  | 11 => rfl
  | 12 => rfl
  | 13 => rfl
  | 14 => rfl
  | 15 => rfl
  | 16 => rfl
  | 17 => rfl
  | 18 => rfl
  | _ + 19 => rfl
theorem un_fl : ∀ n, UnF n = true → (UnB n).flat UnF = true := by
  intro n
  match n with
  | 0 => exact fun h => by first | rfl | cases h
  | 1 => exact fun h => by first | rfl | cases h
  | 2 => exact fun h => by first | rfl | cases h
  | 3 => exact fun h => by first | rfl | cases h
  | 4 => exact fun h => by first | rfl | cases h
  | 5 => exact fun h => by first | rfl | cases h
  | 6 => exact fun h => by first | rfl | cases h
  | 7 => exact fun h => by first | rfl | cases h
  | 8 => exact fun h => by first | rfl | cases h
  | 9 => exact fun h => by first | rfl | cases h
  | 10 => exact fun h => by first | rfl | cases h
  | 11 => exact fun h => by first | rfl | cases h
  | 12 => exact fun h => by first | rfl | cases h
  | 13 => exact fun h => by first | rfl | cases h
  | 14 => exact fun h => by first | rfl | cases h
  | 15 => exact fun h => by first | rfl | cases h
  | 16 => exact fun h => by first | rfl | cases h
  | 17 => exact fun h => by first | rfl | cases h
  | 18 => exact fun h => by first | rfl | cases h
  | _ + 19 => exact fun _ => rfl
def Un : Univ where
  T := UnT
  body := UnB
  out := UnOut
  inn := UnInn
  out_inn := un_out_inn
  inn_out := un_inn_out
  wd := UnW
  wd_ok := un_wd
  fl := UnF
  fl_ok := un_fl
theorem mixed : Tryz.prog.follows .mixedOrders = true := by kernel_rfl
theorem az_28 : ∃ v cs, (Tryz.prog.info? 28).bind (·.zero) = some v ∧ v.cells.toList = cs ∧ ZU Un [.p .bool false, .p .bool false, .p .bool false, .p .bool false, .p .bool false, .p .bool false, .lit (.slice none 0 0), .lit (.slice none 0 0), .p .str ([] : List UInt8), .p (.int .i64) (0 : Int), .lit (.slice none 0 0)] cs := ⟨(.agg #[.bool false, .bool false, .bool false, .bool false, .bool false, .bool false, .slice none 0 0, .slice none 0 0, .string ByteArray.empty, .int .i64 0, .slice none 0 0]), _, by kernel_rfl, rfl, (.data (fun _ _ _ => .bool _) (.data (fun _ _ _ => .bool _) (.data (fun _ _ _ => .bool _) (.data (fun _ _ _ => .bool _) (.data (fun _ _ _ => .bool _) (.data (fun _ _ _ => .bool _) (.lit rfl (.lit rfl (.data (fun _ _ _ => rd_str0) (.data (fun _ _ _ => .int _ _) (.lit rfl .nil)))))))))))⟩
theorem az_33 : ∃ v cs, (Tryz.prog.info? 33).bind (·.zero) = some v ∧ v.cells.toList = cs ∧ ZU Un [.p (.arr 6 .bool) ((List.replicate 6 false) : List Bool)] cs := ⟨(.agg #[.bool false, .bool false, .bool false, .bool false, .bool false, .bool false]), _, by kernel_rfl, rfl, (.data (rd_falses _) .nil)⟩
theorem az_72 : ∃ v cs, (Tryz.prog.info? 72).bind (·.zero) = some v ∧ v.cells.toList = cs ∧ ZU Un [.p .str ([] : List UInt8), .p (.list .str) ([] : List (List UInt8)), .p (.int .i64) (0 : Int), .p .bool false] cs := ⟨(.agg #[.string ByteArray.empty, .slice none 0 0, .int .i64 0, .bool false]), _, by kernel_rfl, rfl, (.data (fun _ _ _ => rd_str0) (.data (fun _ _ _ => .lnil _) (.data (fun _ _ _ => .int _ _) (.data (fun _ _ _ => .bool _) .nil))))⟩
theorem az_75 : ∃ v cs, (Tryz.prog.info? 75).bind (·.zero) = some v ∧ v.cells.toList = cs ∧ ZU Un [.p (.int .i64) (0 : Int), .p .str ([] : List UInt8), .p (.list .str) ([] : List (List UInt8)), .p (.int .i64) (0 : Int), .p .bool false] cs := ⟨(.agg #[.int .i64 0, .string ByteArray.empty, .slice none 0 0, .int .i64 0, .bool false]), _, by kernel_rfl, rfl, (.data (fun _ _ _ => .int _ _) (.data (fun _ _ _ => rd_str0) (.data (fun _ _ _ => .lnil _) (.data (fun _ _ _ => .int _ _) (.data (fun _ _ _ => .bool _) .nil)))))⟩
theorem ty_4 : TyOk Tryz.prog Un 4 .bool := tyOk_mk (c := 1) (by kernel_rfl) rfl Tryz.underlying4 rfl
theorem fd_28_0 : FdOk Tryz.prog Un 28 0 0 4 .bool := ⟨⟨_, _, Tryz.underlying28, rfl, rfl, rfl⟩, ty_4⟩
theorem fd_28_1 : FdOk Tryz.prog Un 28 1 1 4 .bool := ⟨⟨_, _, Tryz.underlying28, rfl, rfl, rfl⟩, ty_4⟩
theorem fd_28_2 : FdOk Tryz.prog Un 28 2 2 4 .bool := ⟨⟨_, _, Tryz.underlying28, rfl, rfl, rfl⟩, ty_4⟩
theorem fd_28_3 : FdOk Tryz.prog Un 28 3 3 4 .bool := ⟨⟨_, _, Tryz.underlying28, rfl, rfl, rfl⟩, ty_4⟩
theorem fd_28_4 : FdOk Tryz.prog Un 28 4 4 4 .bool := ⟨⟨_, _, Tryz.underlying28, rfl, rfl, rfl⟩, ty_4⟩
theorem fd_28_5 : FdOk Tryz.prog Un 28 5 5 4 .bool := ⟨⟨_, _, Tryz.underlying28, rfl, rfl, rfl⟩, ty_4⟩
theorem ty_22 : TyOk Tryz.prog Un 22 (.list .str) := tyOk_mk (c := 1) (by kernel_rfl) rfl Tryz.underlying22 rfl
theorem fd_28_6 : FdOk Tryz.prog Un 28 6 6 22 (.list .str) := ⟨⟨_, _, Tryz.underlying28, rfl, rfl, rfl⟩, ty_22⟩
theorem fd_28_7 : FdOk Tryz.prog Un 28 7 7 22 (.list .str) := ⟨⟨_, _, Tryz.underlying28, rfl, rfl, rfl⟩, ty_22⟩
theorem ty_9 : TyOk Tryz.prog Un 9 .str := tyOk_mk (c := 1) (by kernel_rfl) rfl Tryz.underlying9 rfl
theorem fd_28_8 : FdOk Tryz.prog Un 28 8 8 9 .str := ⟨⟨_, _, Tryz.underlying28, rfl, rfl, rfl⟩, ty_9⟩
theorem ty_3 : TyOk Tryz.prog Un 3 (.int .i64) := tyOk_mk (c := 1) (by kernel_rfl) rfl Tryz.underlying3 rfl
theorem fd_28_9 : FdOk Tryz.prog Un 28 9 9 3 (.int .i64) := ⟨⟨_, _, Tryz.underlying28, rfl, rfl, rfl⟩, ty_3⟩
theorem ty_26 : TyOk Tryz.prog Un 26 (.list (.named 3)) := tyOk_mk (c := 1) (by kernel_rfl) rfl Tryz.underlying26 rfl
theorem fd_28_10 : FdOk Tryz.prog Un 28 10 10 26 (.list (.named 3)) := ⟨⟨_, _, Tryz.underlying28, rfl, rfl, rfl⟩, ty_26⟩
theorem fd_53_0 : FdOk Tryz.prog Un 53 0 0 22 (.list .str) := ⟨⟨_, _, Tryz.underlying53, rfl, rfl, rfl⟩, ty_22⟩
theorem ty_28 : TyOk Tryz.prog Un 28 (.named 4) := tyOk_mk (c := 11) (by kernel_rfl) rfl Tryz.underlying28 rfl
theorem fd_53_1 : FdOk Tryz.prog Un 53 1 1 28 (.named 4) := ⟨⟨_, _, Tryz.underlying53, rfl, rfl, rfl⟩, ty_28⟩
theorem fd_72_0 : FdOk Tryz.prog Un 72 0 0 9 .str := ⟨⟨_, _, Tryz.underlying72, rfl, rfl, rfl⟩, ty_9⟩
theorem fd_72_1 : FdOk Tryz.prog Un 72 1 1 22 (.list .str) := ⟨⟨_, _, Tryz.underlying72, rfl, rfl, rfl⟩, ty_22⟩
theorem fd_72_2 : FdOk Tryz.prog Un 72 2 2 3 (.int .i64) := ⟨⟨_, _, Tryz.underlying72, rfl, rfl, rfl⟩, ty_3⟩
theorem fd_72_3 : FdOk Tryz.prog Un 72 3 3 4 .bool := ⟨⟨_, _, Tryz.underlying72, rfl, rfl, rfl⟩, ty_4⟩
theorem ty_72 : TyOk Tryz.prog Un 72 (.named 3) := tyOk_mk (c := 4) (by kernel_rfl) rfl Tryz.underlying72 rfl
theorem fd_75_1 : FdOk Tryz.prog Un 75 1 1 72 (.named 3) := ⟨⟨_, _, Tryz.underlying75, rfl, rfl, rfl⟩, ty_72⟩
theorem hb_6 : HasBody Tryz.prog 6 := ⟨⟨_, Tryz.func6, by kernel_rfl, rfl⟩⟩
theorem hb_7 : HasBody Tryz.prog 7 := ⟨⟨_, Tryz.func7, by kernel_rfl, rfl⟩⟩
theorem hb_9 : HasBody Tryz.prog 9 := ⟨⟨_, Tryz.func9, by kernel_rfl, rfl⟩⟩
theorem hb_15 : HasBody Tryz.prog 15 := ⟨⟨_, Tryz.func15, by kernel_rfl, rfl⟩⟩
theorem hb_16 : HasBody Tryz.prog 16 := ⟨⟨_, Tryz.func16, by kernel_rfl, rfl⟩⟩
theorem hb_17 : HasBody Tryz.prog 17 := ⟨⟨_, Tryz.func17, by kernel_rfl, rfl⟩⟩
theorem hb_19 : HasBody Tryz.prog 19 := ⟨⟨_, Tryz.func19, by kernel_rfl, rfl⟩⟩
theorem hb_22 : HasBody Tryz.prog 22 := ⟨⟨_, Tryz.func22, by kernel_rfl, rfl⟩⟩
theorem hb_23 : HasBody Tryz.prog 23 := ⟨⟨_, Tryz.func23, by kernel_rfl, rfl⟩⟩
theorem hb_34 : HasBody Tryz.prog 34 := ⟨⟨_, Tryz.func34, by kernel_rfl, rfl⟩⟩
theorem hb_35 : HasBody Tryz.prog 35 := ⟨⟨_, Tryz.func35, by kernel_rfl, rfl⟩⟩
theorem hb_36 : HasBody Tryz.prog 36 := ⟨⟨_, Tryz.func36, by kernel_rfl, rfl⟩⟩
theorem hb_37 : HasBody Tryz.prog 37 := ⟨⟨_, Tryz.func37, by kernel_rfl, rfl⟩⟩
theorem hb_38 : HasBody Tryz.prog 38 := ⟨⟨_, Tryz.func38, by kernel_rfl, rfl⟩⟩
theorem hb_39 : HasBody Tryz.prog 39 := ⟨⟨_, Tryz.func39, by kernel_rfl, rfl⟩⟩
theorem hb_40 : HasBody Tryz.prog 40 := ⟨⟨_, Tryz.func40, by kernel_rfl, rfl⟩⟩
theorem hb_41 : HasBody Tryz.prog 41 := ⟨⟨_, Tryz.func41, by kernel_rfl, rfl⟩⟩
theorem hb_42 : HasBody Tryz.prog 42 := ⟨⟨_, Tryz.func42, by kernel_rfl, rfl⟩⟩
theorem hb_43 : HasBody Tryz.prog 43 := ⟨⟨_, Tryz.func43, by kernel_rfl, rfl⟩⟩
theorem hb_44 : HasBody Tryz.prog 44 := ⟨⟨_, Tryz.func44, by kernel_rfl, rfl⟩⟩
theorem hb_45 : HasBody Tryz.prog 45 := ⟨⟨_, Tryz.func45, by kernel_rfl, rfl⟩⟩
theorem hb_46 : HasBody Tryz.prog 46 := ⟨⟨_, Tryz.func46, by kernel_rfl, rfl⟩⟩
theorem hb_47 : HasBody Tryz.prog 47 := ⟨⟨_, Tryz.func47, by kernel_rfl, rfl⟩⟩
theorem hb_48 : HasBody Tryz.prog 48 := ⟨⟨_, Tryz.func48, by kernel_rfl, rfl⟩⟩
theorem hb_50 : HasBody Tryz.prog 50 := ⟨⟨_, Tryz.func50, by kernel_rfl, rfl⟩⟩
theorem hb_51 : HasBody Tryz.prog 51 := ⟨⟨_, Tryz.func51, by kernel_rfl, rfl⟩⟩
theorem hb_52 : HasBody Tryz.prog 52 := ⟨⟨_, Tryz.func52, by kernel_rfl, rfl⟩⟩
theorem hb_53 : HasBody Tryz.prog 53 := ⟨⟨_, Tryz.func53, by kernel_rfl, rfl⟩⟩
theorem hb_54 : HasBody Tryz.prog 54 := ⟨⟨_, Tryz.func54, by kernel_rfl, rfl⟩⟩
theorem hb_55 : HasBody Tryz.prog 55 := ⟨⟨_, Tryz.func55, by kernel_rfl, rfl⟩⟩
theorem hb_63 : HasBody Tryz.prog 63 := ⟨⟨_, Tryz.func63, by kernel_rfl, rfl⟩⟩
theorem hb_64 : HasBody Tryz.prog 64 := ⟨⟨_, Tryz.func64, by kernel_rfl, rfl⟩⟩
theorem hb_65 : HasBody Tryz.prog 65 := ⟨⟨_, Tryz.func65, by kernel_rfl, rfl⟩⟩
theorem hb_66 : HasBody Tryz.prog 66 := ⟨⟨_, Tryz.func66, by kernel_rfl, rfl⟩⟩
theorem hb_67 : HasBody Tryz.prog 67 := ⟨⟨_, Tryz.func67, by kernel_rfl, rfl⟩⟩
theorem hb_68 : HasBody Tryz.prog 68 := ⟨⟨_, Tryz.func68, by kernel_rfl, rfl⟩⟩
theorem hb_70 : HasBody Tryz.prog 70 := ⟨⟨_, Tryz.func70, by kernel_rfl, rfl⟩⟩
theorem hb_71 : HasBody Tryz.prog 71 := ⟨⟨_, Tryz.func71, by kernel_rfl, rfl⟩⟩
theorem hb_72 : HasBody Tryz.prog 72 := ⟨⟨_, Tryz.func72, by kernel_rfl, rfl⟩⟩
theorem hb_73 : HasBody Tryz.prog 73 := ⟨⟨_, Tryz.func73, by kernel_rfl, rfl⟩⟩
theorem hb_74 : HasBody Tryz.prog 74 := ⟨⟨_, Tryz.func74, by kernel_rfl, rfl⟩⟩
theorem hb_75 : HasBody Tryz.prog 75 := ⟨⟨_, Tryz.func75, by kernel_rfl, rfl⟩⟩
theorem hb_76 : HasBody Tryz.prog 76 := ⟨⟨_, Tryz.func76, by kernel_rfl, rfl⟩⟩
theorem hb_77 : HasBody Tryz.prog 77 := ⟨⟨_, Tryz.func77, by kernel_rfl, rfl⟩⟩
theorem hb_81 : HasBody Tryz.prog 81 := ⟨⟨_, Tryz.func81, by kernel_rfl, rfl⟩⟩
theorem hb_82 : HasBody Tryz.prog 82 := ⟨⟨_, Tryz.func82, by kernel_rfl, rfl⟩⟩
theorem hb_83 : HasBody Tryz.prog 83 := ⟨⟨_, Tryz.func83, by kernel_rfl, rfl⟩⟩
theorem hb_84 : HasBody Tryz.prog 84 := ⟨⟨_, Tryz.func84, by kernel_rfl, rfl⟩⟩
theorem hb_85 : HasBody Tryz.prog 85 := ⟨⟨_, Tryz.func85, by kernel_rfl, rfl⟩⟩
theorem hb_86 : HasBody Tryz.prog 86 := ⟨⟨_, Tryz.func86, by kernel_rfl, rfl⟩⟩
theorem hb_87 : HasBody Tryz.prog 87 := ⟨⟨_, Tryz.func87, by kernel_rfl, rfl⟩⟩
theorem hb_88 : HasBody Tryz.prog 88 := ⟨⟨_, Tryz.func88, by kernel_rfl, rfl⟩⟩
theorem hb_89 : HasBody Tryz.prog 89 := ⟨⟨_, Tryz.func89, by kernel_rfl, rfl⟩⟩
theorem hb_91 : HasBody Tryz.prog 91 := ⟨⟨_, Tryz.func91, by kernel_rfl, rfl⟩⟩
theorem hb_92 : HasBody Tryz.prog 92 := ⟨⟨_, Tryz.func92, by kernel_rfl, rfl⟩⟩
theorem hb_95 : HasBody Tryz.prog 95 := ⟨⟨_, Tryz.func95, by kernel_rfl, rfl⟩⟩
theorem hb_105 : HasBody Tryz.prog 105 := ⟨⟨_, Tryz.func105, by kernel_rfl, rfl⟩⟩
theorem lays_28 : lays Tryz.prog 28 = some ([.bool false, .bool false, .bool false, .bool false, .bool false, .bool false, .slice none 0 0, .slice none 0 0, .string ByteArray.empty, .int .i64 0, .slice none 0 0], (fun i => ([(0, 1), (1, 1), (2, 1), (3, 1), (4, 1), (5, 1), (6, 1), (7, 1), (8, 1), (9, 1), (10, 1)] : List (Nat × Nat)).toArray[i]?)) := by kernel_rfl
theorem lays_33 : lays Tryz.prog 33 = some ([.bool false, .bool false, .bool false, .bool false, .bool false, .bool false], (fun i => some (i * 1, 1))) := by kernel_rfl
theorem lays_53 : lays Tryz.prog 53 = some ([.slice none 0 0, .bool false, .bool false, .bool false, .bool false, .bool false, .bool false, .slice none 0 0, .slice none 0 0, .string ByteArray.empty, .int .i64 0, .slice none 0 0], (fun i => ([(0, 1), (1, 11)] : List (Nat × Nat)).toArray[i]?)) := by kernel_rfl
theorem lays_72 : lays Tryz.prog 72 = some ([.string ByteArray.empty, .slice none 0 0, .int .i64 0, .bool false], (fun i => ([(0, 1), (1, 1), (2, 1), (3, 1)] : List (Nat × Nat)).toArray[i]?)) := by kernel_rfl
theorem lays_75 : lays Tryz.prog 75 = some ([.int .i64 0, .string ByteArray.empty, .slice none 0 0, .int .i64 0, .bool false], (fun i => ([(0, 1), (1, 4)] : List (Nat × Nat)).toArray[i]?)) := by kernel_rfl
theorem sl_22 : SlOk Tryz.prog Un 22 9 .str := ⟨Tryz.underlying22, ty_9⟩
theorem row_22 : RowOk Tryz.prog Un 22 9 .str 16 := rowOk_mk (c := 1) sl_22 (by kernel_rfl) rfl (by decide)
theorem sl_26 : SlOk Tryz.prog Un 26 72 (.named 3) := ⟨Tryz.underlying26, ty_72⟩
theorem row_26 : RowOk Tryz.prog Un 26 72 (.named 3) 56 := rowOk_mk (c := 4) sl_26 (by kernel_rfl) rfl (by decide)
theorem ty_75 : TyOk Tryz.prog Un 75 (.named 7) := tyOk_mk (c := 5) (by kernel_rfl) rfl Tryz.underlying75 rfl
theorem sl_73 : SlOk Tryz.prog Un 73 75 (.named 7) := ⟨Tryz.underlying73, ty_75⟩
theorem row_73 : RowOk Tryz.prog Un 73 75 (.named 7) 64 := rowOk_mk (c := 5) sl_73 (by kernel_rfl) rfl (by decide)
theorem ty_5 : TyOk Tryz.prog Un 5 (.int .u8) := tyOk_mk (c := 1) (by kernel_rfl) rfl Tryz.underlying5 rfl
theorem sl_93 : SlOk Tryz.prog Un 93 5 (.int .u8) := ⟨Tryz.underlying93, ty_5⟩
theorem row_93 : RowOk Tryz.prog Un 93 5 (.int .u8) 1 := rowOk_mk (c := 1) sl_93 (by kernel_rfl) rfl (by decide)
theorem ty_30 : TyOk Tryz.prog Un 30 .err := tyOk_mk (c := 1) (by kernel_rfl) rfl Tryz.underlying30 rfl
theorem ty_33 : TyOk Tryz.prog Un 33 (.arr 6 .bool) := tyOk_mk (c := 6) (by kernel_rfl) rfl Tryz.underlying33 rfl
theorem ty_53 : TyOk Tryz.prog Un 53 (.named 6) := tyOk_mk (c := 12) (by kernel_rfl) rfl Tryz.underlying53 rfl
theorem ty_79 : TyOk Tryz.prog Un 79 .bool := tyOk_mk (c := 1) (by kernel_rfl) rfl Tryz.underlying79 rfl
theorem z8_5 : ∃ i, Tryz.prog.info? 5 = some i ∧ i.zero = some (.int .u8 0) := z8_mk (by kernel_rfl)
noncomputable def TB : Tab Un where
  un := Tryz.prog.underlying
  ty := [(3, .int .i64), (4, .bool), (5, .int .u8), (9, .str), (22, .list .str), (26, .list (.named 3)), (28, .named 4), (30, .err), (33, .arr 6 .bool), (53, .named 6), (72, .named 3), (75, .named 7), (79, .bool)]
  sl := [(22, 9, .str), (26, 72, .named 3), (73, 75, .named 7), (93, 5, .int .u8)]
  fd := [(28, 0, 0, .bool), (28, 1, 1, .bool), (28, 2, 2, .bool), (28, 3, 3, .bool), (28, 4, 4, .bool), (28, 5, 5, .bool), (28, 6, 6, .list .str), (28, 7, 7, .list .str), (28, 8, 8, .str), (28, 9, 9, .int .i64), (28, 10, 10, .list (.named 3)), (53, 0, 0, .list .str), (53, 1, 1, .named 4), (72, 0, 0, .str), (72, 1, 1, .list .str), (72, 2, 2, .int .i64), (72, 3, 3, .bool), (75, 1, 1, .named 3)]
  ro := [(22, 9, .str, 16), (26, 72, .named 3, 56), (73, 75, .named 7, 64), (93, 5, .int .u8, 1)]
  az := [(28, [.p .bool false, .p .bool false, .p .bool false, .p .bool false, .p .bool false, .p .bool false, .lit (.slice none 0 0), .lit (.slice none 0 0), .p .str ([] : List UInt8), .p (.int .i64) (0 : Int), .lit (.slice none 0 0)]), (33, [.p (.arr 6 .bool) ((List.replicate 6 false) : List Bool)]), (72, [.p .str ([] : List UInt8), .p (.list .str) ([] : List (List UInt8)), .p (.int .i64) (0 : Int), .p .bool false]), (75, [.p (.int .i64) (0 : Int), .p .str ([] : List UInt8), .p (.list .str) ([] : List (List UInt8)), .p (.int .i64) (0 : Int), .p .bool false])]
  bz := [(28, [.p .bool false, .p .bool false, .p .bool false, .p .bool false, .p .bool false, .p .bool false, .lit (.slice none 0 0), .lit (.slice none 0 0), .p .str ([] : List UInt8), .p (.int .i64) (0 : Int), .lit (.slice none 0 0)], [(0, 1, .bool), (1, 1, .bool), (2, 1, .bool), (3, 1, .bool), (4, 1, .bool), (5, 1, .bool), (6, 1, .list .str), (7, 1, .list .str), (8, 1, .str), (9, 1, .int .i64), (10, 1, .list (.named 3))]), (53, [.p (.list .str) ([] : List (List UInt8)), .p .bool false, .p .bool false, .p .bool false, .p .bool false, .p .bool false, .p .bool false, .lit (.slice none 0 0), .lit (.slice none 0 0), .p .str ([] : List UInt8), .p (.int .i64) (0 : Int), .lit (.slice none 0 0)], [(0, 1, .list .str), (1, 11, .named 4)]), (72, [.p .str ([] : List UInt8), .p (.list .str) ([] : List (List UInt8)), .p (.int .i64) (0 : Int), .p .bool false], [(0, 1, .str), (1, 1, .list .str), (2, 1, .int .i64), (3, 1, .bool)]), (75, [.p (.int .i64) (0 : Int), .p .str ([] : List UInt8), .p (.list .str) ([] : List (List UInt8)), .p (.int .i64) (0 : Int), .p .bool false], [(0, 1, .int .i64), (1, 4, .named 3)])]
  hb := [6, 7, 9, 15, 16, 17, 19, 22, 23, 34, 35, 36, 37, 38, 39, 40, 41, 42, 43, 44, 45, 46, 47, 48, 50, 51, 52, 53, 54, 55, 63, 64, 65, 66, 67, 68, 70, 71, 72, 73, 74, 75, 76, 77, 81, 82, 83, 84, 85, 86, 87, 88, 89, 91, 92, 95, 105]
theorem TBok : TbOk Tryz.prog Un TB where
  un := fun _ _ h => h
  ty := (.c ty_3 (.c ty_4 (.c ty_5 (.c ty_9 (.c ty_22 (.c ty_26 (.c ty_28 (.c ty_30 (.c ty_33 (.c ty_53 (.c ty_72 (.c ty_75 (.c ty_79 AllP.z)))))))))))))
  sl := (.c sl_22 (.c sl_26 (.c sl_73 (.c sl_93 AllP.z))))
  fd := (.c ⟨_, fd_28_0⟩ (.c ⟨_, fd_28_1⟩ (.c ⟨_, fd_28_2⟩ (.c ⟨_, fd_28_3⟩ (.c ⟨_, fd_28_4⟩ (.c ⟨_, fd_28_5⟩ (.c ⟨_, fd_28_6⟩ (.c ⟨_, fd_28_7⟩ (.c ⟨_, fd_28_8⟩ (.c ⟨_, fd_28_9⟩ (.c ⟨_, fd_28_10⟩ (.c ⟨_, fd_53_0⟩ (.c ⟨_, fd_53_1⟩ (.c ⟨_, fd_72_0⟩ (.c ⟨_, fd_72_1⟩ (.c ⟨_, fd_72_2⟩ (.c ⟨_, fd_72_3⟩ (.c ⟨_, fd_75_1⟩ AllP.z))))))))))))))))))
  ro := (.c row_22 (.c row_26 (.c row_73 (.c row_93 AllP.z))))
  mp := AllP.z
  zd := AllP.z
  az := (.c az_28 (.c az_33 (.c az_72 (.c az_75 AllP.z))))
  bz := (.c ⟨_, _, lays_28, (.data (fun _ _ _ => .bool _) (.data (fun _ _ _ => .bool _) (.data (fun _ _ _ => .bool _) (.data (fun _ _ _ => .bool _) (.data (fun _ _ _ => .bool _) (.data (fun _ _ _ => .bool _) (.lit rfl (.lit rfl (.data (fun _ _ _ => rd_str0) (.data (fun _ _ _ => .int _ _) (.lit rfl .nil))))))))))), by kernel_rfl⟩ (.c ⟨_, _, lays_53, (.data (fun _ _ _ => .lnil _) (.data (fun _ _ _ => .bool _) (.data (fun _ _ _ => .bool _) (.data (fun _ _ _ => .bool _) (.data (fun _ _ _ => .bool _) (.data (fun _ _ _ => .bool _) (.data (fun _ _ _ => .bool _) (.lit rfl (.lit rfl (.data (fun _ _ _ => rd_str0) (.data (fun _ _ _ => .int _ _) (.lit rfl .nil)))))))))))), by kernel_rfl⟩ (.c ⟨_, _, lays_72, (.data (fun _ _ _ => rd_str0) (.data (fun _ _ _ => .lnil _) (.data (fun _ _ _ => .int _ _) (.data (fun _ _ _ => .bool _) .nil)))), by kernel_rfl⟩ (.c ⟨_, _, lays_75, (.data (fun _ _ _ => .int _ _) (.data (fun _ _ _ => rd_str0) (.data (fun _ _ _ => .lnil _) (.data (fun _ _ _ => .int _ _) (.data (fun _ _ _ => .bool _) .nil))))), by kernel_rfl⟩ AllP.z))))
  hb := (.c hb_6 (.c hb_7 (.c hb_9 (.c hb_15 (.c hb_16 (.c hb_17 (.c hb_19 (.c hb_22 (.c hb_23 (.c hb_34 (.c hb_35 (.c hb_36 (.c hb_37 (.c hb_38 (.c hb_39 (.c hb_40 (.c hb_41 (.c hb_42 (.c hb_43 (.c hb_44 (.c hb_45 (.c hb_46 (.c hb_47 (.c hb_48 (.c hb_50 (.c hb_51 (.c hb_52 (.c hb_53 (.c hb_54 (.c hb_55 (.c hb_63 (.c hb_64 (.c hb_65 (.c hb_66 (.c hb_67 (.c hb_68 (.c hb_70 (.c hb_71 (.c hb_72 (.c hb_73 (.c hb_74 (.c hb_75 (.c hb_76 (.c hb_77 (.c hb_81 (.c hb_82 (.c hb_83 (.c hb_84 (.c hb_85 (.c hb_86 (.c hb_87 (.c hb_88 (.c hb_89 (.c hb_91 (.c hb_92 (.c hb_95 (.c hb_105 AllP.z)))))))))))))))))))))))))))))))))))))))))))))))))))))))))
theorem rSC {O : Out} {B : Base} {id N : Nat} {ops : Array Oper} {st : St Un} {Q : PostQ Un} (x : RX Un O Tryz.prog ops) (ts ns : List Nat) (hN : B.n = N) (h1 : okS TB x st N = true) (h2 : obL TB x st = obR TB x st)  {st2 : St Un} (hcv : Conv Un O (nxS TB x st ts ns) st2) (hQ : Q .normal st2) : WpC Un O Tryz.prog B (.region id ops false) st Q := WpC.rS TBok x ts ns hN h1 h2 rfl hcv hQ
theorem rS {O : Out} {B : Base} {id N : Nat} {ops : Array Oper} {st : St Un} {Q : PostQ Un} (x : RX Un O Tryz.prog ops) (ts ns : List Nat) (hN : B.n = N) (h1 : okS TB x st N = true) (h2 : obL TB x st = obR TB x st)  (hQ : Q .normal (nxS TB x st ts ns)) : WpC Un O Tryz.prog B (.region id ops false) st Q := WpC.rS TBok x ts ns hN h1 h2 rfl (Conv.refl _) hQ
theorem rA {O : Out} {B : Base} {id N : Nat} {ops : Array Oper} {st : St Un} {Q : PostQ Un} (x : RX Un O Tryz.prog ops) (ts ns : List Nat) (hN : B.n = N) (h1 : okS TB x st N = true) (h2 : obL TB x st = obR TB x st) (h4 : raS TB x st = true)  (hQ : Q .normal (nxS TB x st ts ns)) : WpC Un O Tryz.prog B (.region id ops true) st Q := WpC.rA TBok mixed x ts ns hN h1 h2 h4 rfl (Conv.refl _) hQ
theorem cS {O : Out} {st : St Un} (l : List (CV Un O)) (h1 : cvOk l st = true) (h2 : cvL l st = cvR l st) : Conv Un O st (cvN l st) := Conv.S h1 h2
theorem tS : type_of% (@WpC.tS Un) := @WpC.tS Un
theorem eR {O : Out} {fn : Func} {c : CSpec Un} {st : St Un} (h1 : (resD TB st fn.results.toList).map resOf = some c.r) (h2 : (c.bs'.map fun x => lookA st.hp x.1) = c.bs'.map fun x => some x.2) : Go.AM.Ends Un O Tryz.prog fn c .ret st := ends_retS TBok h1 h2
theorem cvR : type_of% (@Conv.refl Un) := @Conv.refl Un
theorem sqJ : type_of% (@WpC.seqJ Un) := @WpC.seqJ Un
theorem tnU : type_of% (@thenQ_normal Un) := @thenQ_normal Un
theorem m1_ {α : Type _} {a0 a1 : α} {l : List α} : a1 ∈ a0 :: a1 :: l := (.tail _ (.head _))
theorem m2_ {α : Type _} {a0 a1 a2 : α} {l : List α} : a2 ∈ a0 :: a1 :: a2 :: l := (.tail _ (.tail _ (.head _)))
theorem m3_ {α : Type _} {a0 a1 a2 a3 : α} {l : List α} : a3 ∈ a0 :: a1 :: a2 :: a3 :: l := (.tail _ (.tail _ (.tail _ (.head _))))
theorem m4_ {α : Type _} {a0 a1 a2 a3 a4 : α} {l : List α} : a4 ∈ a0 :: a1 :: a2 :: a3 :: a4 :: l := (.tail _ (.tail _ (.tail _ (.tail _ (.head _)))))
theorem m5_ {α : Type _} {a0 a1 a2 a3 a4 a5 : α} {l : List α} : a5 ∈ a0 :: a1 :: a2 :: a3 :: a4 :: a5 :: l := (.tail _ (.tail _ (.tail _ (.tail _ (.tail _ (.head _))))))
theorem tnS {O : Out} {P : Program} {B : Base} {x y : Code} {st : St Un} {Q Q' : PostQ Un} (h : WpC Un O P B x st (thenQ (fun st' => WpC Un O P B y st' Q) Q)) : thenQ (fun st' => WpC Un O P B (x.seq y) st' Q) Q' Exit.normal st := tnU (WpC.seq h)
theorem ckS {O : Out} {P : Program} {B : Base} {c : Code} {st b : St Un} {Q : PostQ Un} (ts ns : List Nat) (h : st.keep ts ns = b) (hq : WpC Un O P B c b Q) : WpC Un O P B c st Q := WpC.conv (Conv.keep ts ns h) hq
theorem sq_ : type_of% (@WpC.seq Un) := @WpC.seq Un
theorem wb_ : type_of% (@WpC.block Un) := @WpC.block Un
theorem ws_ : type_of% (@WpC.skip Un) := @WpC.skip Un
theorem wr_ : type_of% (@WpC.ret Un) := @WpC.ret Un
theorem we_ : type_of% (@WpC.exit Un) := @WpC.exit Un
theorem te_ : type_of% (@thenQ_exit Un) := @thenQ_exit Un
theorem tr_ : type_of% (@thenQ_ret Un) := @thenQ_ret Un
theorem bn_ : type_of% (@blockQ_normal Un) := @blockQ_normal Un
theorem wc_ : type_of% (@WpC.conv Un) := @WpC.conv Un
theorem u0_ : type_of% (@Conv.cast Un) := @Conv.cast Un
theorem u1_ : type_of% (@WpC.loop Un) := @WpC.loop Un
theorem u2_ : type_of% (@sok_appendS Un) := @sok_appendS Un
theorem u3_ : type_of% (@sok_appendW' Un) := @sok_appendW' Un
theorem u4_ : type_of% (@sok_build Un) := @sok_build Un
theorem u5_ : type_of% (@sok_buildB Un) := @sok_buildB Un
theorem u6_ : type_of% (@sok_buildSliceP Un) := @sok_buildSliceP Un
theorem u7_ : type_of% (@sok_eqArrB Un) := @sok_eqArrB Un
theorem u8_ : type_of% (@sok_indexVB Un) := @sok_indexVB Un
theorem u9_ : type_of% (@sok_loadG Un) := @sok_loadG Un
end Go.Proofs.YtcijochjfncefaaGreatDoor
