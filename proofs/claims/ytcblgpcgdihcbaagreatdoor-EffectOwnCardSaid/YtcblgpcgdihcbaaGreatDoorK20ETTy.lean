/- A part of the proof of a given law: ETTy. Own work, printed in part by a program of mine. -/
import Derived.Test.YtcblgpcgdihcbaaGreatDoorK20AmR5
import Derived.Test.YtcblgpcgdihcbaaGreatDoorProg
namespace Go.Proofs.YtcblgpcgdihcbaaGreatDoor
open Go Go.AM
set_option linter.unusedVariables false
set_option linter.unusedSimpArgs false
set_option maxRecDepth 100000
structure T_runtime_boundsError where
  f_x : Int
  f_y : Int
  f_signed : Bool
  f_code : Int
  deriving Inhabited
structure T_runtime_errorAddressString where
  f_msg : List UInt8
  f_addr : Int
  deriving Inhabited
structure T_tree_File where
  f_Name : List UInt8
  f_Content : List UInt8
  f_Time : Int
  deriving Inhabited
structure T_effect_Effect where
  f_Op : Int
  f_Name : List UInt8
  f_Text : List UInt8
  deriving Inhabited
structure T_ar_Member where
  f_Name : List UInt8
  f_Time : Int
  f_Content : List UInt8
  deriving Inhabited
structure T_millwrightref02_Tree where
  f_All : List T_tree_File
  deriving Inhabited
structure T_strconv_NumError where
  f_Func : List UInt8
  f_Num : List UInt8
  f_Err : Nat
  deriving Inhabited
structure T_utf8_acceptRange where
  f_lo : Int
  f_hi : Int
  deriving Inhabited
structure T_errors_errorString where
  f_s : List UInt8
  deriving Inhabited
structure T_reflectlite_ValueError where
  f_Method : List UInt8
  f_Kind : Int
  deriving Inhabited
structure T_abi_UncommonType where
  f_PkgPath : Int
  f_Mcount : Int
  f_Xcount : Int
  f_Moff : Int
  f_blank4 : Int
  deriving Inhabited
structure T_abi_Method where
  f_Name : Int
  f_Mtyp : Int
  f_Ifn : Int
  f_Tfn : Int
  deriving Inhabited
def UnT : Nat → Type := fun n => match n with | 0 => T_runtime_boundsError | 1 => T_runtime_errorAddressString | 2 => Unit | 3 => T_tree_File | 4 => T_effect_Effect | 5 => T_ar_Member | 6 => Unit | 7 => T_millwrightref02_Tree | 8 => Unit | 9 => Unit | 10 => T_strconv_NumError | 11 => T_utf8_acceptRange | 12 => T_errors_errorString | 13 => Unit | 14 => Unit | 15 => Unit | 16 => T_reflectlite_ValueError | 17 => T_abi_UncommonType | 18 => T_abi_Method | _ + 19 => Unit
def UnB : Nat → Ty := fun n => match n with | 0 => (.pair (.int .i64) (.pair (.int .i64) (.pair .bool (.pair (.int .u8) .unit)))) | 1 => (.pair .str (.pair (.int .u64) .unit)) | 2 => .unit | 3 => (.pair .str (.pair .str (.pair (.int .i64) .unit))) | 4 => (.pair (.int .i64) (.pair .str (.pair .str .unit))) | 5 => (.pair .str (.pair (.int .i64) (.pair .str .unit))) | 6 => .unit | 7 => (.pair (.list (.named 3)) .unit) | 8 => .unit | 9 => .unit | 10 => (.pair .str (.pair .str (.pair .err .unit))) | 11 => (.pair (.int .u8) (.pair (.int .u8) .unit)) | 12 => (.pair .str .unit) | 13 => .unit | 14 => .unit | 15 => .unit | 16 => (.pair .str (.pair (.int .u8) .unit)) | 17 => (.pair (.int .i32) (.pair (.int .u16) (.pair (.int .u16) (.pair (.int .u32) (.pair (.int .u32) .unit))))) | 18 => (.pair (.int .i32) (.pair (.int .i32) (.pair (.int .i32) (.pair (.int .i32) .unit)))) | _ + 19 => .unit
def UnOut : (n : Nat) → UnT n → (UnB n).den UnT := fun n => match n with | 0 => fun x => (x.f_x, x.f_y, x.f_signed, x.f_code, ()) | 1 => fun x => (x.f_msg, x.f_addr, ()) | 2 => fun _ => () | 3 => fun x => (x.f_Name, x.f_Content, x.f_Time, ()) | 4 => fun x => (x.f_Op, x.f_Name, x.f_Text, ()) | 5 => fun x => (x.f_Name, x.f_Time, x.f_Content, ()) | 6 => fun _ => () | 7 => fun x => (x.f_All, ()) | 8 => fun _ => () | 9 => fun _ => () | 10 => fun x => (x.f_Func, x.f_Num, x.f_Err, ()) | 11 => fun x => (x.f_lo, x.f_hi, ()) | 12 => fun x => (x.f_s, ()) | 13 => fun _ => () | 14 => fun _ => () | 15 => fun _ => () | 16 => fun x => (x.f_Method, x.f_Kind, ()) | 17 => fun x => (x.f_PkgPath, x.f_Mcount, x.f_Xcount, x.f_Moff, x.f_blank4, ()) | 18 => fun x => (x.f_Name, x.f_Mtyp, x.f_Ifn, x.f_Tfn, ()) | _ + 19 => fun _ => ()
def UnInn : (n : Nat) → (UnB n).den UnT → UnT n := fun n => match n with | 0 => fun (x : Int × Int × Bool × Int × Unit) => (T_runtime_boundsError.mk x.1 x.2.1 x.2.2.1 x.2.2.2.1 : T_runtime_boundsError) | 1 => fun (x : (List UInt8) × Int × Unit) => (T_runtime_errorAddressString.mk x.1 x.2.1 : T_runtime_errorAddressString) | 2 => fun _ => () | 3 => fun (x : (List UInt8) × (List UInt8) × Int × Unit) => (T_tree_File.mk x.1 x.2.1 x.2.2.1 : T_tree_File) | 4 => fun (x : Int × (List UInt8) × (List UInt8) × Unit) => (T_effect_Effect.mk x.1 x.2.1 x.2.2.1 : T_effect_Effect) | 5 => fun (x : (List UInt8) × Int × (List UInt8) × Unit) => (T_ar_Member.mk x.1 x.2.1 x.2.2.1 : T_ar_Member) | 6 => fun _ => () | 7 => fun (x : (List T_tree_File) × Unit) => (T_millwrightref02_Tree.mk x.1 : T_millwrightref02_Tree) | 8 => fun _ => () | 9 => fun _ => () | 10 => fun (x : (List UInt8) × (List UInt8) × Nat × Unit) => (T_strconv_NumError.mk x.1 x.2.1 x.2.2.1 : T_strconv_NumError) | 11 => fun (x : Int × Int × Unit) => (T_utf8_acceptRange.mk x.1 x.2.1 : T_utf8_acceptRange) | 12 => fun (x : (List UInt8) × Unit) => (T_errors_errorString.mk x.1 : T_errors_errorString) | 13 => fun _ => () | 14 => fun _ => () | 15 => fun _ => () | 16 => fun (x : (List UInt8) × Int × Unit) => (T_reflectlite_ValueError.mk x.1 x.2.1 : T_reflectlite_ValueError) | 17 => fun (x : Int × Int × Int × Int × Int × Unit) => (T_abi_UncommonType.mk x.1 x.2.1 x.2.2.1 x.2.2.2.1 x.2.2.2.2.1 : T_abi_UncommonType) | 18 => fun (x : Int × Int × Int × Int × Unit) => (T_abi_Method.mk x.1 x.2.1 x.2.2.1 x.2.2.2.1 : T_abi_Method) | _ + 19 => fun _ => ()
def UnW : Nat → Nat := fun n => match n with | 0 => 4 | 1 => 2 | 2 => 0 | 3 => 3 | 4 => 3 | 5 => 3 | 6 => 0 | 7 => 1 | 8 => 0 | 9 => 0 | 10 => 3 | 11 => 2 | 12 => 1 | 13 => 0 | 14 => 0 | 15 => 0 | 16 => 2 | 17 => 5 | 18 => 4 | _ + 19 => 0
def UnF : Nat → Bool := fun n => match n with | 0 => true | 1 => true | 2 => true | 3 => true | 4 => true | 5 => true | 6 => true | 7 => false | 8 => true | 9 => true | 10 => true | 11 => true | 12 => true | 13 => true | 14 => true | 15 => true | 16 => true | 17 => true | 18 => true | _ + 19 => true
theorem un_out_inn : ∀ n x, UnOut n (UnInn n x) = x := by
  intro n
  match n with
  | 0 => exact fun _ => rfl
  | 1 => exact fun _ => rfl
  | 2 => exact fun _ => rfl
  | 3 => exact fun _ => rfl
  | 4 => exact fun _ => rfl
  | 5 => exact fun _ => rfl
  | 6 => exact fun _ => rfl
  | 7 => exact fun _ => rfl
  | 8 => exact fun _ => rfl
  | 9 => exact fun _ => rfl
  | 10 => exact fun _ => rfl
  | 11 => exact fun _ => rfl
  | 12 => exact fun _ => rfl
  | 13 => exact fun _ => rfl
  | 14 => exact fun _ => rfl
  | 15 => exact fun _ => rfl
  | 16 => exact fun _ => rfl
  | 17 => exact fun _ => rfl
  | 18 => exact fun _ => rfl
  | _ + 19 => exact fun _ => rfl
theorem un_inn_out : ∀ n x, UnInn n (UnOut n x) = x := by
  intro n
  match n with
  | 0 => exact fun x => by cases x; rfl
  | 1 => exact fun x => by cases x; rfl
  | 2 => exact fun _ => rfl
  | 3 => exact fun x => by cases x; rfl
  | 4 => exact fun x => by cases x; rfl
  | 5 => exact fun x => by cases x; rfl
  | 6 => exact fun _ => rfl
  | 7 => exact fun x => by cases x; rfl
  | 8 => exact fun _ => rfl
  | 9 => exact fun _ => rfl
  | 10 => exact fun x => by cases x; rfl
  | 11 => exact fun x => by cases x; rfl
  | 12 => exact fun x => by cases x; rfl
  | 13 => exact fun _ => rfl
  | 14 => exact fun _ => rfl
  | 15 => exact fun _ => rfl
  | 16 => exact fun x => by cases x; rfl
  | 17 => exact fun x => by cases x; rfl
  | 18 => exact fun x => by cases x; rfl
  | _ + 19 => exact fun _ => rfl
theorem un_wd : ∀ n, (UnB n).width UnW = UnW n := by
  intro n
  match n with
  | 0 => rfl
  | 1 => rfl
  | 2 => rfl
  | 3 => rfl
  | 4 => rfl
  | 5 => rfl
  | 6 => rfl
  | 7 => rfl
  | 8 => rfl
  | 9 => rfl
  | 10 => rfl
  | 11 => rfl
  | 12 => rfl
  | 13 => rfl
  | 14 => rfl
  | 15 => rfl
  | 16 => rfl
  | 17 => rfl
  | 18 => rfl
  | _ + 19 => rfl
theorem un_fl : ∀ n, UnF n = true → (UnB n).flat UnF = true := by
  intro n
  match n with
  | 0 => exact fun h => by first | rfl | cases h
  | 1 => exact fun h => by first | rfl | cases h
  | 2 => exact fun h => by first | rfl | cases h
  | 3 => exact fun h => by first | rfl | cases h
  | 4 => exact fun h => by first | rfl | cases h
  | 5 => exact fun h => by first | rfl | cases h
  | 6 => exact fun h => by first | rfl | cases h
  | 7 => exact fun h => by first | rfl | cases h
  | 8 => exact fun h => by first | rfl | cases h
  | 9 => exact fun h => by first | rfl | cases h
  | 10 => exact fun h => by first | rfl | cases h
  | 11 => exact fun h => by first | rfl | cases h
  | 12 => exact fun h => by first | rfl | cases h
  | 13 => exact fun h => by first | rfl | cases h
  | 14 => exact fun h => by first | rfl | cases h
  | 15 => exact fun h => by first | rfl | cases h
  | 16 => exact fun h => by first | rfl | cases h
  | 17 => exact fun h => by first | rfl | cases h
  | 18 => exact fun h => by first | rfl | cases h
  | _ + 19 => exact fun _ => rfl
def Un : Univ where
  T := UnT
  body := UnB
  out := UnOut
  inn := UnInn
  out_inn := un_out_inn
  inn_out := un_inn_out
  wd := UnW
  wd_ok := un_wd
  fl := UnF
  fl_ok := un_fl
theorem mixed : Tryz.prog.follows .mixedOrders = true := by kernel_rfl
theorem az_42 : ∃ v cs, (Tryz.prog.info? 42).bind (·.zero) = some v ∧ v.cells.toList = cs ∧ ZU Un [.p (.int .i64) (0 : Int), .p .str ([] : List UInt8), .p .str ([] : List UInt8)] cs := ⟨(.agg #[.int .i64 0, .string ByteArray.empty, .string ByteArray.empty]), _, by kernel_rfl, rfl, (.data (fun _ _ _ => .int _ _) (.data (fun _ _ _ => rd_str0) (.data (fun _ _ _ => rd_str0) .nil)))⟩
theorem az_54 : ∃ v cs, (Tryz.prog.info? 54).bind (·.zero) = some v ∧ v.cells.toList = cs ∧ ZU Un [.p .str ([] : List UInt8), .p .str ([] : List UInt8), .p (.int .i64) (0 : Int)] cs := ⟨(.agg #[.string ByteArray.empty, .string ByteArray.empty, .int .i64 0]), _, by kernel_rfl, rfl, (.data (fun _ _ _ => rd_str0) (.data (fun _ _ _ => rd_str0) (.data (fun _ _ _ => .int _ _) .nil)))⟩
theorem az_77 : ∃ v cs, (Tryz.prog.info? 77).bind (·.zero) = some v ∧ v.cells.toList = cs ∧ ZU Un [.p .str ([] : List UInt8), .p (.int .i64) (0 : Int), .p .str ([] : List UInt8)] cs := ⟨(.agg #[.string ByteArray.empty, .int .i64 0, .string ByteArray.empty]), _, by kernel_rfl, rfl, (.data (fun _ _ _ => rd_str0) (.data (fun _ _ _ => .int _ _) (.data (fun _ _ _ => rd_str0) .nil)))⟩
theorem az_102 : ∃ v cs, (Tryz.prog.info? 102).bind (·.zero) = some v ∧ v.cells.toList = cs ∧ ZU Un [.p .str ([] : List UInt8), .p (.int .i64) (0 : Int), .p .str ([] : List UInt8)] cs := ⟨(.agg #[.string ByteArray.empty, .int .i64 0, .string ByteArray.empty]), _, by kernel_rfl, rfl, (.data (fun _ _ _ => rd_str0) (.data (fun _ _ _ => .int _ _) (.data (fun _ _ _ => rd_str0) .nil)))⟩
theorem ty_3 : TyOk Tryz.prog Un 3 (.int .i64) := tyOk_mk (c := 1) (by kernel_rfl) rfl Tryz.underlying3 rfl
theorem ty_9 : TyOk Tryz.prog Un 9 .str := tyOk_mk (c := 1) (by kernel_rfl) rfl Tryz.underlying9 rfl
theorem eqf_54 : ∀ fs, Tryz.prog.underlying 54 = some (.struct fs) → EqF Tryz.prog Un fs.toList 0 (Un.body 3) := fun fs h => by
  rw [Tryz.underlying54] at h
  cases h
  exact (.cons (by decide) rfl ty_9 (.str Tryz.underlying9) (.cons (by decide) rfl ty_9 (.str Tryz.underlying9) (.cons (by decide) rfl ty_3 (.int Tryz.underlying3) .nil)))
theorem fd_42_0 : FdOk Tryz.prog Un 42 0 0 3 (.int .i64) := ⟨⟨_, _, Tryz.underlying42, rfl, rfl, rfl⟩, ty_3⟩
theorem fd_42_1 : FdOk Tryz.prog Un 42 1 1 9 .str := ⟨⟨_, _, Tryz.underlying42, rfl, rfl, rfl⟩, ty_9⟩
theorem fd_42_2 : FdOk Tryz.prog Un 42 2 2 9 .str := ⟨⟨_, _, Tryz.underlying42, rfl, rfl, rfl⟩, ty_9⟩
theorem fd_54_0 : FdOk Tryz.prog Un 54 0 0 9 .str := ⟨⟨_, _, Tryz.underlying54, rfl, rfl, rfl⟩, ty_9⟩
theorem fd_54_1 : FdOk Tryz.prog Un 54 1 1 9 .str := ⟨⟨_, _, Tryz.underlying54, rfl, rfl, rfl⟩, ty_9⟩
theorem fd_54_2 : FdOk Tryz.prog Un 54 2 2 3 (.int .i64) := ⟨⟨_, _, Tryz.underlying54, rfl, rfl, rfl⟩, ty_3⟩
theorem fd_77_0 : FdOk Tryz.prog Un 77 0 0 9 .str := ⟨⟨_, _, Tryz.underlying77, rfl, rfl, rfl⟩, ty_9⟩
theorem fd_77_1 : FdOk Tryz.prog Un 77 1 1 3 (.int .i64) := ⟨⟨_, _, Tryz.underlying77, rfl, rfl, rfl⟩, ty_3⟩
theorem fd_77_2 : FdOk Tryz.prog Un 77 2 2 9 .str := ⟨⟨_, _, Tryz.underlying77, rfl, rfl, rfl⟩, ty_9⟩
theorem ty1_83 : TyOk Tryz.prog Un 83 .bool := tyOk_mk (c := 1) (by kernel_rfl) rfl Tryz.underlying83 rfl
theorem fd_85_0 : FdOk Tryz.prog Un 85 0 0 83 .bool := ⟨⟨_, _, Tryz.underlying85, rfl, rfl, rfl⟩, ty1_83⟩
theorem fd_102_0 : FdOk Tryz.prog Un 102 0 0 9 .str := ⟨⟨_, _, Tryz.underlying102, rfl, rfl, rfl⟩, ty_9⟩
theorem fd_102_1 : FdOk Tryz.prog Un 102 1 1 3 (.int .i64) := ⟨⟨_, _, Tryz.underlying102, rfl, rfl, rfl⟩, ty_3⟩
theorem fd_102_2 : FdOk Tryz.prog Un 102 2 2 9 .str := ⟨⟨_, _, Tryz.underlying102, rfl, rfl, rfl⟩, ty_9⟩
theorem hb_9 : HasBody Tryz.prog 9 := ⟨⟨_, Tryz.func9, by kernel_rfl, rfl⟩⟩
theorem hb_10 : HasBody Tryz.prog 10 := ⟨⟨_, Tryz.func10, by kernel_rfl, rfl⟩⟩
theorem hb_12 : HasBody Tryz.prog 12 := ⟨⟨_, Tryz.func12, by kernel_rfl, rfl⟩⟩
theorem hb_14 : HasBody Tryz.prog 14 := ⟨⟨_, Tryz.func14, by kernel_rfl, rfl⟩⟩
theorem hb_15 : HasBody Tryz.prog 15 := ⟨⟨_, Tryz.func15, by kernel_rfl, rfl⟩⟩
theorem hb_16 : HasBody Tryz.prog 16 := ⟨⟨_, Tryz.func16, by kernel_rfl, rfl⟩⟩
theorem hb_17 : HasBody Tryz.prog 17 := ⟨⟨_, Tryz.func17, by kernel_rfl, rfl⟩⟩
theorem hb_18 : HasBody Tryz.prog 18 := ⟨⟨_, Tryz.func18, by kernel_rfl, rfl⟩⟩
theorem hb_19 : HasBody Tryz.prog 19 := ⟨⟨_, Tryz.func19, by kernel_rfl, rfl⟩⟩
theorem hb_20 : HasBody Tryz.prog 20 := ⟨⟨_, Tryz.func20, by kernel_rfl, rfl⟩⟩
theorem hb_21 : HasBody Tryz.prog 21 := ⟨⟨_, Tryz.func21, by kernel_rfl, rfl⟩⟩
theorem hb_22 : HasBody Tryz.prog 22 := ⟨⟨_, Tryz.func22, by kernel_rfl, rfl⟩⟩
theorem hb_23 : HasBody Tryz.prog 23 := ⟨⟨_, Tryz.func23, by kernel_rfl, rfl⟩⟩
theorem hb_24 : HasBody Tryz.prog 24 := ⟨⟨_, Tryz.func24, by kernel_rfl, rfl⟩⟩
theorem hb_25 : HasBody Tryz.prog 25 := ⟨⟨_, Tryz.func25, by kernel_rfl, rfl⟩⟩
theorem hb_26 : HasBody Tryz.prog 26 := ⟨⟨_, Tryz.func26, by kernel_rfl, rfl⟩⟩
theorem hb_27 : HasBody Tryz.prog 27 := ⟨⟨_, Tryz.func27, by kernel_rfl, rfl⟩⟩
theorem hb_35 : HasBody Tryz.prog 35 := ⟨⟨_, Tryz.func35, by kernel_rfl, rfl⟩⟩
theorem hb_37 : HasBody Tryz.prog 37 := ⟨⟨_, Tryz.func37, by kernel_rfl, rfl⟩⟩
theorem hb_38 : HasBody Tryz.prog 38 := ⟨⟨_, Tryz.func38, by kernel_rfl, rfl⟩⟩
theorem hb_39 : HasBody Tryz.prog 39 := ⟨⟨_, Tryz.func39, by kernel_rfl, rfl⟩⟩
theorem hb_40 : HasBody Tryz.prog 40 := ⟨⟨_, Tryz.func40, by kernel_rfl, rfl⟩⟩
theorem hb_41 : HasBody Tryz.prog 41 := ⟨⟨_, Tryz.func41, by kernel_rfl, rfl⟩⟩
theorem hb_42 : HasBody Tryz.prog 42 := ⟨⟨_, Tryz.func42, by kernel_rfl, rfl⟩⟩
theorem hb_43 : HasBody Tryz.prog 43 := ⟨⟨_, Tryz.func43, by kernel_rfl, rfl⟩⟩
theorem hb_44 : HasBody Tryz.prog 44 := ⟨⟨_, Tryz.func44, by kernel_rfl, rfl⟩⟩
theorem hb_45 : HasBody Tryz.prog 45 := ⟨⟨_, Tryz.func45, by kernel_rfl, rfl⟩⟩
theorem hb_46 : HasBody Tryz.prog 46 := ⟨⟨_, Tryz.func46, by kernel_rfl, rfl⟩⟩
theorem hb_47 : HasBody Tryz.prog 47 := ⟨⟨_, Tryz.func47, by kernel_rfl, rfl⟩⟩
theorem hb_48 : HasBody Tryz.prog 48 := ⟨⟨_, Tryz.func48, by kernel_rfl, rfl⟩⟩
theorem hb_56 : HasBody Tryz.prog 56 := ⟨⟨_, Tryz.func56, by kernel_rfl, rfl⟩⟩
theorem hb_62 : HasBody Tryz.prog 62 := ⟨⟨_, Tryz.func62, by kernel_rfl, rfl⟩⟩
theorem hb_63 : HasBody Tryz.prog 63 := ⟨⟨_, Tryz.func63, by kernel_rfl, rfl⟩⟩
theorem hb_64 : HasBody Tryz.prog 64 := ⟨⟨_, Tryz.func64, by kernel_rfl, rfl⟩⟩
theorem hb_65 : HasBody Tryz.prog 65 := ⟨⟨_, Tryz.func65, by kernel_rfl, rfl⟩⟩
theorem hb_66 : HasBody Tryz.prog 66 := ⟨⟨_, Tryz.func66, by kernel_rfl, rfl⟩⟩
theorem hb_67 : HasBody Tryz.prog 67 := ⟨⟨_, Tryz.func67, by kernel_rfl, rfl⟩⟩
theorem hb_68 : HasBody Tryz.prog 68 := ⟨⟨_, Tryz.func68, by kernel_rfl, rfl⟩⟩
theorem hb_69 : HasBody Tryz.prog 69 := ⟨⟨_, Tryz.func69, by kernel_rfl, rfl⟩⟩
theorem hb_70 : HasBody Tryz.prog 70 := ⟨⟨_, Tryz.func70, by kernel_rfl, rfl⟩⟩
theorem hb_71 : HasBody Tryz.prog 71 := ⟨⟨_, Tryz.func71, by kernel_rfl, rfl⟩⟩
theorem hb_72 : HasBody Tryz.prog 72 := ⟨⟨_, Tryz.func72, by kernel_rfl, rfl⟩⟩
theorem hb_73 : HasBody Tryz.prog 73 := ⟨⟨_, Tryz.func73, by kernel_rfl, rfl⟩⟩
theorem hb_74 : HasBody Tryz.prog 74 := ⟨⟨_, Tryz.func74, by kernel_rfl, rfl⟩⟩
theorem hb_75 : HasBody Tryz.prog 75 := ⟨⟨_, Tryz.func75, by kernel_rfl, rfl⟩⟩
theorem hb_78 : HasBody Tryz.prog 78 := ⟨⟨_, Tryz.func78, by kernel_rfl, rfl⟩⟩
theorem hb_79 : HasBody Tryz.prog 79 := ⟨⟨_, Tryz.func79, by kernel_rfl, rfl⟩⟩
theorem hb_80 : HasBody Tryz.prog 80 := ⟨⟨_, Tryz.func80, by kernel_rfl, rfl⟩⟩
theorem hb_84 : HasBody Tryz.prog 84 := ⟨⟨_, Tryz.func84, by kernel_rfl, rfl⟩⟩
theorem hb_85 : HasBody Tryz.prog 85 := ⟨⟨_, Tryz.func85, by kernel_rfl, rfl⟩⟩
theorem hb_86 : HasBody Tryz.prog 86 := ⟨⟨_, Tryz.func86, by kernel_rfl, rfl⟩⟩
theorem hb_87 : HasBody Tryz.prog 87 := ⟨⟨_, Tryz.func87, by kernel_rfl, rfl⟩⟩
theorem hb_88 : HasBody Tryz.prog 88 := ⟨⟨_, Tryz.func88, by kernel_rfl, rfl⟩⟩
theorem hb_89 : HasBody Tryz.prog 89 := ⟨⟨_, Tryz.func89, by kernel_rfl, rfl⟩⟩
theorem hb_90 : HasBody Tryz.prog 90 := ⟨⟨_, Tryz.func90, by kernel_rfl, rfl⟩⟩
theorem hb_91 : HasBody Tryz.prog 91 := ⟨⟨_, Tryz.func91, by kernel_rfl, rfl⟩⟩
theorem hb_92 : HasBody Tryz.prog 92 := ⟨⟨_, Tryz.func92, by kernel_rfl, rfl⟩⟩
theorem hb_95 : HasBody Tryz.prog 95 := ⟨⟨_, Tryz.func95, by kernel_rfl, rfl⟩⟩
theorem hb_96 : HasBody Tryz.prog 96 := ⟨⟨_, Tryz.func96, by kernel_rfl, rfl⟩⟩
theorem hb_99 : HasBody Tryz.prog 99 := ⟨⟨_, Tryz.func99, by kernel_rfl, rfl⟩⟩
theorem hb_100 : HasBody Tryz.prog 100 := ⟨⟨_, Tryz.func100, by kernel_rfl, rfl⟩⟩
theorem hb_101 : HasBody Tryz.prog 101 := ⟨⟨_, Tryz.func101, by kernel_rfl, rfl⟩⟩
theorem hb_102 : HasBody Tryz.prog 102 := ⟨⟨_, Tryz.func102, by kernel_rfl, rfl⟩⟩
theorem hb_103 : HasBody Tryz.prog 103 := ⟨⟨_, Tryz.func103, by kernel_rfl, rfl⟩⟩
theorem hb_104 : HasBody Tryz.prog 104 := ⟨⟨_, Tryz.func104, by kernel_rfl, rfl⟩⟩
theorem hb_105 : HasBody Tryz.prog 105 := ⟨⟨_, Tryz.func105, by kernel_rfl, rfl⟩⟩
theorem hb_106 : HasBody Tryz.prog 106 := ⟨⟨_, Tryz.func106, by kernel_rfl, rfl⟩⟩
theorem hb_107 : HasBody Tryz.prog 107 := ⟨⟨_, Tryz.func107, by kernel_rfl, rfl⟩⟩
theorem hb_108 : HasBody Tryz.prog 108 := ⟨⟨_, Tryz.func108, by kernel_rfl, rfl⟩⟩
theorem hb_109 : HasBody Tryz.prog 109 := ⟨⟨_, Tryz.func109, by kernel_rfl, rfl⟩⟩
theorem hb_110 : HasBody Tryz.prog 110 := ⟨⟨_, Tryz.func110, by kernel_rfl, rfl⟩⟩
theorem hb_111 : HasBody Tryz.prog 111 := ⟨⟨_, Tryz.func111, by kernel_rfl, rfl⟩⟩
theorem hb_128 : HasBody Tryz.prog 128 := ⟨⟨_, Tryz.func128, by kernel_rfl, rfl⟩⟩
theorem hb_133 : HasBody Tryz.prog 133 := ⟨⟨_, Tryz.func133, by kernel_rfl, rfl⟩⟩
theorem hb_134 : HasBody Tryz.prog 134 := ⟨⟨_, Tryz.func134, by kernel_rfl, rfl⟩⟩
theorem hb_135 : HasBody Tryz.prog 135 := ⟨⟨_, Tryz.func135, by kernel_rfl, rfl⟩⟩
theorem hb_136 : HasBody Tryz.prog 136 := ⟨⟨_, Tryz.func136, by kernel_rfl, rfl⟩⟩
theorem hb_137 : HasBody Tryz.prog 137 := ⟨⟨_, Tryz.func137, by kernel_rfl, rfl⟩⟩
theorem hb_151 : HasBody Tryz.prog 151 := ⟨⟨_, Tryz.func151, by kernel_rfl, rfl⟩⟩
theorem lays_42 : lays Tryz.prog 42 = some ([.int .i64 0, .string ByteArray.empty, .string ByteArray.empty], (fun i => ([(0, 1), (1, 1), (2, 1)] : List (Nat × Nat)).toArray[i]?)) := by kernel_rfl
theorem lays_54 : lays Tryz.prog 54 = some ([.string ByteArray.empty, .string ByteArray.empty, .int .i64 0], (fun i => ([(0, 1), (1, 1), (2, 1)] : List (Nat × Nat)).toArray[i]?)) := by kernel_rfl
theorem lays_77 : lays Tryz.prog 77 = some ([.string ByteArray.empty, .int .i64 0, .string ByteArray.empty], (fun i => ([(0, 1), (1, 1), (2, 1)] : List (Nat × Nat)).toArray[i]?)) := by kernel_rfl
theorem lays_85 : lays Tryz.prog 85 = some ([.map none], (fun i => ([(0, 1)] : List (Nat × Nat)).toArray[i]?)) := by kernel_rfl
theorem lays_102 : lays Tryz.prog 102 = some ([.string ByteArray.empty, .int .i64 0, .string ByteArray.empty], (fun i => ([(0, 1), (1, 1), (2, 1)] : List (Nat × Nat)).toArray[i]?)) := by kernel_rfl
theorem map_83 : MapOk Tryz.prog 83 9 54 := ⟨Tryz.underlying83, Tryz.underlying9⟩
theorem sl_34 : SlOk Tryz.prog Un 34 9 .str := ⟨Tryz.underlying34, ty_9⟩
theorem row_34 : RowOk Tryz.prog Un 34 9 .str 16 := rowOk_mk (c := 1) sl_34 (by kernel_rfl) rfl (by decide)
theorem ty_42 : TyOk Tryz.prog Un 42 (.named 4) := tyOk_mk (c := 3) (by kernel_rfl) rfl Tryz.underlying42 rfl
theorem sl_36 : SlOk Tryz.prog Un 36 42 (.named 4) := ⟨Tryz.underlying36, ty_42⟩
theorem row_36 : RowOk Tryz.prog Un 36 42 (.named 4) 40 := rowOk_mk (c := 3) sl_36 (by kernel_rfl) rfl (by decide)
theorem ty_102 : TyOk Tryz.prog Un 102 (.named 5) := tyOk_mk (c := 3) (by kernel_rfl) rfl Tryz.underlying102 rfl
theorem sl_99 : SlOk Tryz.prog Un 99 102 (.named 5) := ⟨Tryz.underlying99, ty_102⟩
theorem row_99 : RowOk Tryz.prog Un 99 102 (.named 5) 40 := rowOk_mk (c := 3) sl_99 (by kernel_rfl) rfl (by decide)
theorem ty_77 : TyOk Tryz.prog Un 77 (.named 5) := tyOk_mk (c := 3) (by kernel_rfl) rfl Tryz.underlying77 rfl
theorem sl_113 : SlOk Tryz.prog Un 113 77 (.named 5) := ⟨Tryz.underlying113, ty_77⟩
theorem row_113 : RowOk Tryz.prog Un 113 77 (.named 5) 40 := rowOk_mk (c := 3) sl_113 (by kernel_rfl) rfl (by decide)
theorem ty_54 : TyOk Tryz.prog Un 54 (.named 3) := tyOk_mk (c := 3) (by kernel_rfl) rfl Tryz.underlying54 rfl
theorem sl_22 : SlOk Tryz.prog Un 22 54 (.named 3) := ⟨Tryz.underlying22, ty_54⟩
theorem ty_27 : TyOk Tryz.prog Un 27 .err := tyOk_mk (c := 1) (by kernel_rfl) rfl Tryz.underlying27 rfl
theorem ty_34 : TyOk Tryz.prog Un 34 (.list .str) := tyOk_mk (c := 1) (by kernel_rfl) rfl Tryz.underlying34 rfl
theorem ty2_85 : TyOk Tryz.prog Un 85 (.arr 1 .bool) := tyOk_mk (c := 1) (by kernel_rfl) rfl Tryz.underlying85 rfl
theorem zv_54 : ZeroOk Tryz.prog Un 54 (.named 3) ((T_tree_File.mk [] [] 0) : T_tree_File) := zeroOk_mk (v := (.agg #[.string ByteArray.empty, .string ByteArray.empty, .int .i64 0])) (by kernel_rfl) fun _ _ _ => ⟨_, (.named _ _ (.pair rd_str0 (.pair rd_str0 (.pair (.int _ _) .unit)))), rfl⟩
noncomputable def TB : Tab Un where
  un := Tryz.prog.underlying
  ty := [(3, .int .i64), (9, .str), (27, .err), (34, .list .str), (42, .named 4), (54, .named 3), (77, .named 5), (102, .named 5), (83, .bool), (85, .arr 1 .bool)]
  sl := [(22, 54, .named 3), (34, 9, .str), (36, 42, .named 4), (99, 102, .named 5), (113, 77, .named 5)]
  fd := [(42, 0, 0, .int .i64), (42, 1, 1, .str), (42, 2, 2, .str), (54, 0, 0, .str), (54, 1, 1, .str), (54, 2, 2, .int .i64), (77, 0, 0, .str), (77, 1, 1, .int .i64), (77, 2, 2, .str), (85, 0, 0, .bool), (102, 0, 0, .str), (102, 1, 1, .int .i64), (102, 2, 2, .str)]
  ro := [(34, 9, .str, 16), (36, 42, .named 4, 40), (99, 102, .named 5, 40), (113, 77, .named 5, 40)]
  mp := [(83, 9, 54)]
  zd := [(54, .p (.named 3) ((T_tree_File.mk [] [] 0) : T_tree_File))]
  az := [(42, [.p (.int .i64) (0 : Int), .p .str ([] : List UInt8), .p .str ([] : List UInt8)]), (54, [.p .str ([] : List UInt8), .p .str ([] : List UInt8), .p (.int .i64) (0 : Int)]), (77, [.p .str ([] : List UInt8), .p (.int .i64) (0 : Int), .p .str ([] : List UInt8)]), (102, [.p .str ([] : List UInt8), .p (.int .i64) (0 : Int), .p .str ([] : List UInt8)])]
  bz := [(42, [.p (.int .i64) (0 : Int), .p .str ([] : List UInt8), .p .str ([] : List UInt8)], [(0, 1, .int .i64), (1, 1, .str), (2, 1, .str)]), (54, [.p .str ([] : List UInt8), .p .str ([] : List UInt8), .p (.int .i64) (0 : Int)], [(0, 1, .str), (1, 1, .str), (2, 1, .int .i64)]), (77, [.p .str ([] : List UInt8), .p (.int .i64) (0 : Int), .p .str ([] : List UInt8)], [(0, 1, .str), (1, 1, .int .i64), (2, 1, .str)]), (85, [.lit (.map none)], [(0, 1, .bool)]), (102, [.p .str ([] : List UInt8), .p (.int .i64) (0 : Int), .p .str ([] : List UInt8)], [(0, 1, .str), (1, 1, .int .i64), (2, 1, .str)])]
  hb := [9, 10, 12, 14, 15, 16, 17, 18, 19, 20, 21, 22, 23, 24, 25, 26, 27, 35, 37, 38, 39, 40, 41, 42, 43, 44, 45, 46, 47, 48, 56, 62, 63, 64, 65, 66, 67, 68, 69, 70, 71, 72, 73, 74, 75, 78, 79, 80, 84, 85, 86, 87, 88, 89, 90, 91, 92, 95, 96, 99, 100, 101, 102, 103, 104, 105, 106, 107, 108, 109, 110, 111, 128, 133, 134, 135, 136, 137, 151]
theorem TBok : TbOk Tryz.prog Un TB where
  un := fun _ _ h => h
  ty := (.c ty_3 (.c ty_9 (.c ty_27 (.c ty_34 (.c ty_42 (.c ty_54 (.c ty_77 (.c ty_102 (.c ty1_83 (.c ty2_85 AllP.z))))))))))
  sl := (.c sl_22 (.c sl_34 (.c sl_36 (.c sl_99 (.c sl_113 AllP.z)))))
  fd := (.c ⟨_, fd_42_0⟩ (.c ⟨_, fd_42_1⟩ (.c ⟨_, fd_42_2⟩ (.c ⟨_, fd_54_0⟩ (.c ⟨_, fd_54_1⟩ (.c ⟨_, fd_54_2⟩ (.c ⟨_, fd_77_0⟩ (.c ⟨_, fd_77_1⟩ (.c ⟨_, fd_77_2⟩ (.c ⟨_, fd_85_0⟩ (.c ⟨_, fd_102_0⟩ (.c ⟨_, fd_102_1⟩ (.c ⟨_, fd_102_2⟩ AllP.z)))))))))))))
  ro := (.c row_34 (.c row_36 (.c row_99 (.c row_113 AllP.z))))
  mp := (.c map_83 AllP.z)
  zd := (.c zv_54 AllP.z)
  az := (.c az_42 (.c az_54 (.c az_77 (.c az_102 AllP.z))))
  bz := (.c ⟨_, _, lays_42, (.data (fun _ _ _ => .int _ _) (.data (fun _ _ _ => rd_str0) (.data (fun _ _ _ => rd_str0) .nil))), by kernel_rfl⟩ (.c ⟨_, _, lays_54, (.data (fun _ _ _ => rd_str0) (.data (fun _ _ _ => rd_str0) (.data (fun _ _ _ => .int _ _) .nil))), by kernel_rfl⟩ (.c ⟨_, _, lays_77, (.data (fun _ _ _ => rd_str0) (.data (fun _ _ _ => .int _ _) (.data (fun _ _ _ => rd_str0) .nil))), by kernel_rfl⟩ (.c ⟨_, _, lays_85, (.lit rfl .nil), by kernel_rfl⟩ (.c ⟨_, _, lays_102, (.data (fun _ _ _ => rd_str0) (.data (fun _ _ _ => .int _ _) (.data (fun _ _ _ => rd_str0) .nil))), by kernel_rfl⟩ AllP.z)))))
  hb := (.c hb_9 (.c hb_10 (.c hb_12 (.c hb_14 (.c hb_15 (.c hb_16 (.c hb_17 (.c hb_18 (.c hb_19 (.c hb_20 (.c hb_21 (.c hb_22 (.c hb_23 (.c hb_24 (.c hb_25 (.c hb_26 (.c hb_27 (.c hb_35 (.c hb_37 (.c hb_38 (.c hb_39 (.c hb_40 (.c hb_41 (.c hb_42 (.c hb_43 (.c hb_44 (.c hb_45 (.c hb_46 (.c hb_47 (.c hb_48 (.c hb_56 (.c hb_62 (.c hb_63 (.c hb_64 (.c hb_65 (.c hb_66 (.c hb_67 (.c hb_68 (.c hb_69 (.c hb_70 (.c hb_71 (.c hb_72 (.c hb_73 (.c hb_74 (.c hb_75 (.c hb_78 (.c hb_79 (.c hb_80 (.c hb_84 (.c hb_85 (.c hb_86 (.c hb_87 (.c hb_88 (.c hb_89 (.c hb_90 (.c hb_91 (.c hb_92 (.c hb_95 (.c hb_96 (.c hb_99 (.c hb_100 (.c hb_101 (.c hb_102 (.c hb_103 (.c hb_104 (.c hb_105 (.c hb_106 (.c hb_107 (.c hb_108 (.c hb_109 (.c hb_110 (.c hb_111 (.c hb_128 (.c hb_133 (.c hb_134 (.c hb_135 (.c hb_136 (.c hb_137 (.c hb_151 AllP.z)))))))))))))))))))))))))))))))))))))))))))))))))))))))))))))))))))))))))))))))
theorem rSC {O : Out} {B : Base} {id N : Nat} {ops : Array Oper} {st : St Un} {Q : PostQ Un} (x : RX Un O Tryz.prog ops) (ts ns : List Nat) (hN : B.n = N) (h1 : okS TB x st N = true) (h2 : obL TB x st = obR TB x st)  {st2 : St Un} (hcv : Conv Un O (nxS TB x st ts ns) st2) (hQ : Q .normal st2) : WpC Un O Tryz.prog B (.region id ops false) st Q := WpC.rS TBok x ts ns hN h1 h2 rfl hcv hQ
theorem rS {O : Out} {B : Base} {id N : Nat} {ops : Array Oper} {st : St Un} {Q : PostQ Un} (x : RX Un O Tryz.prog ops) (ts ns : List Nat) (hN : B.n = N) (h1 : okS TB x st N = true) (h2 : obL TB x st = obR TB x st)  (hQ : Q .normal (nxS TB x st ts ns)) : WpC Un O Tryz.prog B (.region id ops false) st Q := WpC.rS TBok x ts ns hN h1 h2 rfl (Conv.refl _) hQ
theorem rAC {O : Out} {B : Base} {id N : Nat} {ops : Array Oper} {st : St Un} {Q : PostQ Un} (x : RX Un O Tryz.prog ops) (ts ns : List Nat) (hN : B.n = N) (h1 : okS TB x st N = true) (h2 : obL TB x st = obR TB x st) (h4 : raS TB x st = true)  {st2 : St Un} (hcv : Conv Un O (nxS TB x st ts ns) st2) (hQ : Q .normal st2) : WpC Un O Tryz.prog B (.region id ops true) st Q := WpC.rA TBok mixed x ts ns hN h1 h2 h4 rfl hcv hQ
theorem rA {O : Out} {B : Base} {id N : Nat} {ops : Array Oper} {st : St Un} {Q : PostQ Un} (x : RX Un O Tryz.prog ops) (ts ns : List Nat) (hN : B.n = N) (h1 : okS TB x st N = true) (h2 : obL TB x st = obR TB x st) (h4 : raS TB x st = true)  (hQ : Q .normal (nxS TB x st ts ns)) : WpC Un O Tryz.prog B (.region id ops true) st Q := WpC.rA TBok mixed x ts ns hN h1 h2 h4 rfl (Conv.refl _) hQ
theorem cS {O : Out} {st : St Un} (l : List (CV Un O)) (h1 : cvOk l st = true) (h2 : cvL l st = cvR l st) : Conv Un O st (cvN l st) := Conv.S h1 h2
theorem tS : type_of% (@WpC.tS Un) := @WpC.tS Un
theorem eR {O : Out} {fn : Func} {c : CSpec Un} {st : St Un} (h1 : (resD TB st fn.results.toList).map resOf = some c.r) (h2 : (c.bs'.map fun x => lookA st.hp x.1) = c.bs'.map fun x => some x.2) : Go.AM.Ends Un O Tryz.prog fn c .ret st := ends_retS TBok h1 h2
theorem cvR : type_of% (@Conv.refl Un) := @Conv.refl Un
theorem cvK : type_of% (@Conv.keep Un) := @Conv.keep Un
theorem sqJ : type_of% (@WpC.seqJ Un) := @WpC.seqJ Un
theorem tnU : type_of% (@thenQ_normal Un) := @thenQ_normal Un
end Go.Proofs.YtcblgpcgdihcbaaGreatDoor
