/- A part of a proof: DATy. -/
import Derived.Test.YtkdpaglpieamgaaDoorK10Am2
import Derived.Test.YtkdpaglpieamgaaDoorProg
namespace Go.Proofs.YtkdpaglpieamgaaDoor
open Go Go.AM
set_option linter.unusedVariables false
set_option linter.unusedSimpArgs false
set_option maxRecDepth 100000
structure T_runtime_boundsError where
  f_x : Int
  f_y : Int
  f_signed : Bool
  f_code : Int
  deriving Inhabited
structure T_runtime_errorAddressString where
  f_msg : List UInt8
  f_addr : Int
  deriving Inhabited
structure TF where
  fN : List UInt8
  fC : List UInt8
  fT : Int
  deriving Inhabited
structure TW02A where
  fK : Int
  f_File : TF
  deriving Inhabited
structure TR02T where
  f_All : List TF
  deriving Inhabited
structure TC where
  fK : Int
  fO : TF
  fW : TF
  deriving Inhabited
structure TR41C where
  fK : Int
  fO : TF
  fW : TF
  deriving Inhabited
structure T_reflectlite_ValueError where
  f_Method : List UInt8
  fK : Int
  deriving Inhabited
structure T_errors_errorString where
  f_s : List UInt8
  deriving Inhabited
structure T_abi_UncommonType where
  f_PkgPath : Int
  f_Mcount : Int
  f_Xcount : Int
  f_Moff : Int
  f_blank4 : Int
  deriving Inhabited
structure T_abi_Method where
  fN : Int
  f_Mtyp : Int
  f_Ifn : Int
  f_Tfn : Int
  deriving Inhabited
def UnT : Nat → Type := fun n => match n with | 0 => T_runtime_boundsError | 1 => T_runtime_errorAddressString | 2 => Unit | 3 => TF | 4 => TW02A | 5 => TR02T | 6 => TC | 7 => TR41C | 8 => Unit | 9 => Unit | 10 => Unit | 11 => Unit | 12 => Unit | 13 => T_reflectlite_ValueError | 14 => T_errors_errorString | 15 => T_abi_UncommonType | 16 => T_abi_Method | _ + 17 => Unit
def UnB : Nat → Ty := fun n => match n with | 0 => (.pair (.int .i64) (.pair (.int .i64) (.pair .bool (.pair (.int .u8) .unit)))) | 1 => (.pair .str (.pair (.int .u64) .unit)) | 2 => .unit | 3 => (.pair .str (.pair .str (.pair (.int .i64) .unit))) | 4 => (.pair (.int .i64) (.pair (.named 3) .unit)) | 5 => (.pair (.list (.named 3)) .unit) | 6 => (.pair (.int .i64) (.pair (.named 3) (.pair (.named 3) .unit))) | 7 => (.pair (.int .i64) (.pair (.named 3) (.pair (.named 3) .unit))) | 8 => .unit | 9 => .unit | 10 => .unit | 11 => .unit | 12 => .unit | 13 => (.pair .str (.pair (.int .u8) .unit)) | 14 => (.pair .str .unit) | 15 => (.pair (.int .i32) (.pair (.int .u16) (.pair (.int .u16) (.pair (.int .u32) (.pair (.int .u32) .unit))))) | 16 => (.pair (.int .i32) (.pair (.int .i32) (.pair (.int .i32) (.pair (.int .i32) .unit)))) | _ + 17 => .unit
def UnOut : (n : Nat) → UnT n → (UnB n).den UnT := fun n => match n with | 0 => fun x => (x.f_x, x.f_y, x.f_signed, x.f_code, ()) | 1 => fun x => (x.f_msg, x.f_addr, ()) | 2 => fun _ => () | 3 => fun x => (x.fN, x.fC, x.fT, ()) | 4 => fun x => (x.fK, x.f_File, ()) | 5 => fun x => (x.f_All, ()) | 6 => fun x => (x.fK, x.fO, x.fW, ()) | 7 => fun x => (x.fK, x.fO, x.fW, ()) | 8 => fun _ => () | 9 => fun _ => () | 10 => fun _ => () | 11 => fun _ => () | 12 => fun _ => () | 13 => fun x => (x.f_Method, x.fK, ()) | 14 => fun x => (x.f_s, ()) | 15 => fun x => (x.f_PkgPath, x.f_Mcount, x.f_Xcount, x.f_Moff, x.f_blank4, ()) | 16 => fun x => (x.fN, x.f_Mtyp, x.f_Ifn, x.f_Tfn, ()) | _ + 17 => fun _ => ()
def UnInn : (n : Nat) → (UnB n).den UnT → UnT n := fun n => match n with | 0 => fun (x : Int × Int × Bool × Int × Unit) => (T_runtime_boundsError.mk x.1 x.2.1 x.2.2.1 x.2.2.2.1 : T_runtime_boundsError) | 1 => fun (x : (List UInt8) × Int × Unit) => (T_runtime_errorAddressString.mk x.1 x.2.1 : T_runtime_errorAddressString) | 2 => fun _ => () | 3 => fun (x : (List UInt8) × (List UInt8) × Int × Unit) => (TF.mk x.1 x.2.1 x.2.2.1 : TF) | 4 => fun (x : Int × TF × Unit) => (TW02A.mk x.1 x.2.1 : TW02A) | 5 => fun (x : (List TF) × Unit) => (TR02T.mk x.1 : TR02T) | 6 => fun (x : Int × TF × TF × Unit) => (TC.mk x.1 x.2.1 x.2.2.1 : TC) | 7 => fun (x : Int × TF × TF × Unit) => (TR41C.mk x.1 x.2.1 x.2.2.1 : TR41C) | 8 => fun _ => () | 9 => fun _ => () | 10 => fun _ => () | 11 => fun _ => () | 12 => fun _ => () | 13 => fun (x : (List UInt8) × Int × Unit) => (T_reflectlite_ValueError.mk x.1 x.2.1 : T_reflectlite_ValueError) | 14 => fun (x : (List UInt8) × Unit) => (T_errors_errorString.mk x.1 : T_errors_errorString) | 15 => fun (x : Int × Int × Int × Int × Int × Unit) => (T_abi_UncommonType.mk x.1 x.2.1 x.2.2.1 x.2.2.2.1 x.2.2.2.2.1 : T_abi_UncommonType) | 16 => fun (x : Int × Int × Int × Int × Unit) => (T_abi_Method.mk x.1 x.2.1 x.2.2.1 x.2.2.2.1 : T_abi_Method) | _ + 17 => fun _ => ()
def UnW : Nat → Nat := fun n => match n with | 0 => 4 | 1 => 2 | 2 => 0 | 3 => 3 | 4 => 4 | 5 => 1 | 6 => 7 | 7 => 7 | 8 => 0 | 9 => 0 | 10 => 0 | 11 => 0 | 12 => 0 | 13 => 2 | 14 => 1 | 15 => 5 | 16 => 4 | _ + 17 => 0
def UnF : Nat → Bool := fun n => match n with | 0 => true | 1 => true | 2 => true | 3 => true | 4 => true | 5 => false | 6 => true | 7 => true | 8 => true | 9 => true | 10 => true | 11 => true | 12 => true | 13 => true | 14 => true | 15 => true | 16 => true | _ + 17 => true
theorem un_out_inn : ∀ n x, UnOut n (UnInn n x) = x := by
  intro n
  match n with
  | 0 => exact fun _ => rfl
  | 1 => exact fun _ => rfl
  | 2 => exact fun _ => rfl
  | 3 => exact fun _ => rfl
  | 4 => exact fun _ => rfl
  | 5 => exact fun _ => rfl
  | 6 => exact fun _ => rfl
  | 7 => exact fun _ => rfl
  | 8 => exact fun _ => rfl
  | 9 => exact fun _ => rfl
  | 10 => exact fun _ => rfl
  | 11 => exact fun _ => rfl
  | 12 => exact fun _ => rfl
  | 13 => exact fun _ => rfl
  | 14 => exact fun _ => rfl
  | 15 => exact fun _ => rfl
  | 16 => exact fun _ => rfl
  | _ + 17 => exact fun _ => rfl
theorem un_inn_out : ∀ n x, UnInn n (UnOut n x) = x := by
  intro n
  match n with
  | 0 => exact fun x => by cases x; rfl
  | 1 => exact fun x => by cases x; rfl
  | 2 => exact fun _ => rfl
  | 3 => exact fun x => by cases x; rfl
  | 4 => exact fun x => by cases x; rfl
  | 5 => exact fun x => by cases x; rfl
  | 6 => exact fun x => by cases x; rfl
  | 7 => exact fun x => by cases x; rfl
  | 8 => exact fun _ => rfl
  | 9 => exact fun _ => rfl
  | 10 => exact fun _ => rfl
  | 11 => exact fun _ => rfl
  | 12 => exact fun _ => rfl
  | 13 => exact fun x => by cases x; rfl
  | 14 => exact fun x => by cases x; rfl
  | 15 => exact fun x => by cases x; rfl
  | 16 => exact fun x => by cases x; rfl
  | _ + 17 => exact fun _ => rfl
theorem un_wd : ∀ n, (UnB n).width UnW = UnW n := by
  intro n
  match n with
  | 0 => rfl
  | 1 => rfl
  | 2 => rfl
  | 3 => rfl
  | 4 => rfl
  | 5 => rfl
  | 6 => rfl
  | 7 => rfl
  | 8 => rfl
  | 9 => rfl
  | 10 => rfl
  | 11 => rfl
  | 12 => rfl
  | 13 => rfl
  | 14 => rfl
  | 15 => rfl
  | 16 => rfl
  | _ + 17 => rfl
theorem un_fl : ∀ n, UnF n = true → (UnB n).flat UnF = true := by
  intro n
  match n with
  | 0 => exact fun h => by first | rfl | cases h
  | 1 => exact fun h => by first | rfl | cases h
  | 2 => exact fun h => by first | rfl | cases h
  | 3 => exact fun h => by first | rfl | cases h
  | 4 => exact fun h => by first | rfl | cases h
  | 5 => exact fun h => by first | rfl | cases h
  | 6 => exact fun h => by first | rfl | cases h
  | 7 => exact fun h => by first | rfl | cases h
  | 8 => exact fun h => by first | rfl | cases h
  | 9 => exact fun h => by first | rfl | cases h
  | 10 => exact fun h => by first | rfl | cases h
  | 11 => exact fun h => by first | rfl | cases h
  | 12 => exact fun h => by first | rfl | cases h
  | 13 => exact fun h => by first | rfl | cases h
  | 14 => exact fun h => by first | rfl | cases h
  | 15 => exact fun h => by first | rfl | cases h
  | 16 => exact fun h => by first | rfl | cases h
  | _ + 17 => exact fun _ => rfl
def Un : Univ where
  T := UnT
  body := UnB
  out := UnOut
  inn := UnInn
  out_inn := un_out_inn
  inn_out := un_inn_out
  wd := UnW
  wd_ok := un_wd
  fl := UnF
  fl_ok := un_fl
theorem mixed : Tryd.prog.follows .mixedOrders = true := by kernel_rfl
theorem ty_9 : TyOk Tryd.prog Un 9 .str := tyOk_mk (c := 1) (by kernel_rfl) rfl Tryd.underlying9 rfl
theorem ty_3 : TyOk Tryd.prog Un 3 (.int .i64) := tyOk_mk (c := 1) (by kernel_rfl) rfl Tryd.underlying3 rfl
theorem eqf_24 : ∀ fs, Tryd.prog.underlying 24 = some (.struct fs) → EqF Tryd.prog Un fs.toList 0 (Un.body 3) := fun fs h => by
  rw [Tryd.underlying24] at h
  cases h
  exact (.cons (by decide) rfl ty_9 (.str Tryd.underlying9) (.cons (by decide) rfl ty_9 (.str Tryd.underlying9) (.cons (by decide) rfl ty_3 (.int Tryd.underlying3) .nil)))
theorem eqf_50 : ∀ fs, Tryd.prog.underlying 50 = some (.struct fs) → EqF Tryd.prog Un fs.toList 0 (Un.body 3) := fun fs h => by
  rw [Tryd.underlying50] at h
  cases h
  exact (.cons (by decide) rfl ty_9 (.str Tryd.underlying9) (.cons (by decide) rfl ty_9 (.str Tryd.underlying9) (.cons (by decide) rfl ty_3 (.int Tryd.underlying3) .nil)))
theorem ty_50 : TyOk Tryd.prog Un 50 (.named 3) := tyOk_mk (c := 3) (by kernel_rfl) rfl Tryd.underlying50 rfl
theorem eqg_77 : ∀ fs, Tryd.prog.underlying 77 = some (.struct fs) → EqG Tryd.prog Un fs.toList 0 (Un.body 7) := fun fs h => by
  rw [Tryd.underlying77] at h
  cases h
  exact (.cons (by decide) rfl ty_3 (.int Tryd.underlying3) (.st (by decide) rfl ty_50 Tryd.underlying50 (by kernel_rfl) (eqf_50 _ Tryd.underlying50) rfl (.st (by decide) rfl ty_50 Tryd.underlying50 (by kernel_rfl) (eqf_50 _ Tryd.underlying50) rfl .nil)))
theorem fd_24_0 : FdOk Tryd.prog Un 24 0 0 9 .str := ⟨⟨_, _, Tryd.underlying24, rfl, rfl, rfl⟩, ty_9⟩
theorem fd_24_1 : FdOk Tryd.prog Un 24 1 1 9 .str := ⟨⟨_, _, Tryd.underlying24, rfl, rfl, rfl⟩, ty_9⟩
theorem fd_24_2 : FdOk Tryd.prog Un 24 2 2 3 (.int .i64) := ⟨⟨_, _, Tryd.underlying24, rfl, rfl, rfl⟩, ty_3⟩
theorem ty_45 : TyOk Tryd.prog Un 45 (.list (.named 3)) := tyOk_mk (c := 1) (by kernel_rfl) rfl Tryd.underlying45 rfl
theorem fd_47_0 : FdOk Tryd.prog Un 47 0 0 45 (.list (.named 3)) := ⟨⟨_, _, Tryd.underlying47, rfl, rfl, rfl⟩, ty_45⟩
theorem fd_50_0 : FdOk Tryd.prog Un 50 0 0 9 .str := ⟨⟨_, _, Tryd.underlying50, rfl, rfl, rfl⟩, ty_9⟩
theorem fd_50_1 : FdOk Tryd.prog Un 50 1 1 9 .str := ⟨⟨_, _, Tryd.underlying50, rfl, rfl, rfl⟩, ty_9⟩
theorem fd_50_2 : FdOk Tryd.prog Un 50 2 2 3 (.int .i64) := ⟨⟨_, _, Tryd.underlying50, rfl, rfl, rfl⟩, ty_3⟩
theorem fd_77_0 : FdOk Tryd.prog Un 77 0 0 3 (.int .i64) := ⟨⟨_, _, Tryd.underlying77, rfl, rfl, rfl⟩, ty_3⟩
theorem fd_77_1 : FdOk Tryd.prog Un 77 1 1 50 (.named 3) := ⟨⟨_, _, Tryd.underlying77, rfl, rfl, rfl⟩, ty_50⟩
theorem fd_77_2 : FdOk Tryd.prog Un 77 2 4 50 (.named 3) := ⟨⟨_, _, Tryd.underlying77, rfl, rfl, rfl⟩, ty_50⟩
theorem ty1_86 : TyOk Tryd.prog Un 86 .bool := tyOk_mk (c := 1) (by kernel_rfl) rfl Tryd.underlying86 rfl
theorem fd_89_0 : FdOk Tryd.prog Un 89 0 0 86 .bool := ⟨⟨_, _, Tryd.underlying89, rfl, rfl, rfl⟩, ty1_86⟩
theorem fd_103_0 : FdOk Tryd.prog Un 103 0 0 3 (.int .i64) := ⟨⟨_, _, Tryd.underlying103, rfl, rfl, rfl⟩, ty_3⟩
theorem ty_24 : TyOk Tryd.prog Un 24 (.named 3) := tyOk_mk (c := 3) (by kernel_rfl) rfl Tryd.underlying24 rfl
theorem fd_103_1 : FdOk Tryd.prog Un 103 1 1 24 (.named 3) := ⟨⟨_, _, Tryd.underlying103, rfl, rfl, rfl⟩, ty_24⟩
theorem fd_103_2 : FdOk Tryd.prog Un 103 2 4 24 (.named 3) := ⟨⟨_, _, Tryd.underlying103, rfl, rfl, rfl⟩, ty_24⟩
theorem hb_10 : HasBody Tryd.prog 10 := ⟨⟨_, Tryd.func10, by kernel_rfl, rfl⟩⟩
theorem hb_11 : HasBody Tryd.prog 11 := ⟨⟨_, Tryd.func11, by kernel_rfl, rfl⟩⟩
theorem hb_12 : HasBody Tryd.prog 12 := ⟨⟨_, Tryd.func12, by kernel_rfl, rfl⟩⟩
theorem hb_13 : HasBody Tryd.prog 13 := ⟨⟨_, Tryd.func13, by kernel_rfl, rfl⟩⟩
theorem hb_15 : HasBody Tryd.prog 15 := ⟨⟨_, Tryd.func15, by kernel_rfl, rfl⟩⟩
theorem hb_16 : HasBody Tryd.prog 16 := ⟨⟨_, Tryd.func16, by kernel_rfl, rfl⟩⟩
theorem hb_17 : HasBody Tryd.prog 17 := ⟨⟨_, Tryd.func17, by kernel_rfl, rfl⟩⟩
theorem hb_18 : HasBody Tryd.prog 18 := ⟨⟨_, Tryd.func18, by kernel_rfl, rfl⟩⟩
theorem hb_19 : HasBody Tryd.prog 19 := ⟨⟨_, Tryd.func19, by kernel_rfl, rfl⟩⟩
theorem hb_20 : HasBody Tryd.prog 20 := ⟨⟨_, Tryd.func20, by kernel_rfl, rfl⟩⟩
theorem hb_23 : HasBody Tryd.prog 23 := ⟨⟨_, Tryd.func23, by kernel_rfl, rfl⟩⟩
theorem hb_26 : HasBody Tryd.prog 26 := ⟨⟨_, Tryd.func26, by kernel_rfl, rfl⟩⟩
theorem hb_27 : HasBody Tryd.prog 27 := ⟨⟨_, Tryd.func27, by kernel_rfl, rfl⟩⟩
theorem hb_28 : HasBody Tryd.prog 28 := ⟨⟨_, Tryd.func28, by kernel_rfl, rfl⟩⟩
theorem hb_30 : HasBody Tryd.prog 30 := ⟨⟨_, Tryd.func30, by kernel_rfl, rfl⟩⟩
theorem hb_31 : HasBody Tryd.prog 31 := ⟨⟨_, Tryd.func31, by kernel_rfl, rfl⟩⟩
theorem hb_32 : HasBody Tryd.prog 32 := ⟨⟨_, Tryd.func32, by kernel_rfl, rfl⟩⟩
theorem hb_33 : HasBody Tryd.prog 33 := ⟨⟨_, Tryd.func33, by kernel_rfl, rfl⟩⟩
theorem hb_34 : HasBody Tryd.prog 34 := ⟨⟨_, Tryd.func34, by kernel_rfl, rfl⟩⟩
theorem hb_35 : HasBody Tryd.prog 35 := ⟨⟨_, Tryd.func35, by kernel_rfl, rfl⟩⟩
theorem hb_36 : HasBody Tryd.prog 36 := ⟨⟨_, Tryd.func36, by kernel_rfl, rfl⟩⟩
theorem hb_37 : HasBody Tryd.prog 37 := ⟨⟨_, Tryd.func37, by kernel_rfl, rfl⟩⟩
theorem hb_39 : HasBody Tryd.prog 39 := ⟨⟨_, Tryd.func39, by kernel_rfl, rfl⟩⟩
theorem hb_40 : HasBody Tryd.prog 40 := ⟨⟨_, Tryd.func40, by kernel_rfl, rfl⟩⟩
theorem hb_41 : HasBody Tryd.prog 41 := ⟨⟨_, Tryd.func41, by kernel_rfl, rfl⟩⟩
theorem hb_42 : HasBody Tryd.prog 42 := ⟨⟨_, Tryd.func42, by kernel_rfl, rfl⟩⟩
theorem hb_43 : HasBody Tryd.prog 43 := ⟨⟨_, Tryd.func43, by kernel_rfl, rfl⟩⟩
theorem hb_44 : HasBody Tryd.prog 44 := ⟨⟨_, Tryd.func44, by kernel_rfl, rfl⟩⟩
theorem hb_45 : HasBody Tryd.prog 45 := ⟨⟨_, Tryd.func45, by kernel_rfl, rfl⟩⟩
theorem hb_46 : HasBody Tryd.prog 46 := ⟨⟨_, Tryd.func46, by kernel_rfl, rfl⟩⟩
theorem hb_47 : HasBody Tryd.prog 47 := ⟨⟨_, Tryd.func47, by kernel_rfl, rfl⟩⟩
theorem hb_48 : HasBody Tryd.prog 48 := ⟨⟨_, Tryd.func48, by kernel_rfl, rfl⟩⟩
theorem hb_49 : HasBody Tryd.prog 49 := ⟨⟨_, Tryd.func49, by kernel_rfl, rfl⟩⟩
theorem hb_50 : HasBody Tryd.prog 50 := ⟨⟨_, Tryd.func50, by kernel_rfl, rfl⟩⟩
theorem hb_51 : HasBody Tryd.prog 51 := ⟨⟨_, Tryd.func51, by kernel_rfl, rfl⟩⟩
theorem hb_52 : HasBody Tryd.prog 52 := ⟨⟨_, Tryd.func52, by kernel_rfl, rfl⟩⟩
theorem hb_53 : HasBody Tryd.prog 53 := ⟨⟨_, Tryd.func53, by kernel_rfl, rfl⟩⟩
theorem hb_54 : HasBody Tryd.prog 54 := ⟨⟨_, Tryd.func54, by kernel_rfl, rfl⟩⟩
theorem hb_55 : HasBody Tryd.prog 55 := ⟨⟨_, Tryd.func55, by kernel_rfl, rfl⟩⟩
theorem hb_56 : HasBody Tryd.prog 56 := ⟨⟨_, Tryd.func56, by kernel_rfl, rfl⟩⟩
theorem hb_57 : HasBody Tryd.prog 57 := ⟨⟨_, Tryd.func57, by kernel_rfl, rfl⟩⟩
theorem hb_58 : HasBody Tryd.prog 58 := ⟨⟨_, Tryd.func58, by kernel_rfl, rfl⟩⟩
theorem hb_59 : HasBody Tryd.prog 59 := ⟨⟨_, Tryd.func59, by kernel_rfl, rfl⟩⟩
theorem hb_61 : HasBody Tryd.prog 61 := ⟨⟨_, Tryd.func61, by kernel_rfl, rfl⟩⟩
theorem hb_62 : HasBody Tryd.prog 62 := ⟨⟨_, Tryd.func62, by kernel_rfl, rfl⟩⟩
theorem hb_63 : HasBody Tryd.prog 63 := ⟨⟨_, Tryd.func63, by kernel_rfl, rfl⟩⟩
theorem hb_64 : HasBody Tryd.prog 64 := ⟨⟨_, Tryd.func64, by kernel_rfl, rfl⟩⟩
theorem hb_65 : HasBody Tryd.prog 65 := ⟨⟨_, Tryd.func65, by kernel_rfl, rfl⟩⟩
theorem hb_66 : HasBody Tryd.prog 66 := ⟨⟨_, Tryd.func66, by kernel_rfl, rfl⟩⟩
theorem hb_68 : HasBody Tryd.prog 68 := ⟨⟨_, Tryd.func68, by kernel_rfl, rfl⟩⟩
theorem hb_70 : HasBody Tryd.prog 70 := ⟨⟨_, Tryd.func70, by kernel_rfl, rfl⟩⟩
theorem hb_74 : HasBody Tryd.prog 74 := ⟨⟨_, Tryd.func74, by kernel_rfl, rfl⟩⟩
theorem hb_75 : HasBody Tryd.prog 75 := ⟨⟨_, Tryd.func75, by kernel_rfl, rfl⟩⟩
theorem hb_76 : HasBody Tryd.prog 76 := ⟨⟨_, Tryd.func76, by kernel_rfl, rfl⟩⟩
theorem hb_80 : HasBody Tryd.prog 80 := ⟨⟨_, Tryd.func80, by kernel_rfl, rfl⟩⟩
theorem lays_24 : lays Tryd.prog 24 = some ([.string ByteArray.empty, .string ByteArray.empty, .int .i64 0], (fun i => ([(0, 1), (1, 1), (2, 1)] : List (Nat × Nat)).toArray[i]?)) := by kernel_rfl
theorem lays_47 : lays Tryd.prog 47 = some ([.slice none 0 0], (fun i => ([(0, 1)] : List (Nat × Nat)).toArray[i]?)) := by kernel_rfl
theorem lays_50 : lays Tryd.prog 50 = some ([.string ByteArray.empty, .string ByteArray.empty, .int .i64 0], (fun i => ([(0, 1), (1, 1), (2, 1)] : List (Nat × Nat)).toArray[i]?)) := by kernel_rfl
theorem lays_77 : lays Tryd.prog 77 = some ([.int .i64 0, .string ByteArray.empty, .string ByteArray.empty, .int .i64 0, .string ByteArray.empty, .string ByteArray.empty, .int .i64 0], (fun i => ([(0, 1), (1, 3), (4, 3)] : List (Nat × Nat)).toArray[i]?)) := by kernel_rfl
theorem lays_89 : lays Tryd.prog 89 = some ([.map none], (fun i => ([(0, 1)] : List (Nat × Nat)).toArray[i]?)) := by kernel_rfl
theorem lays_103 : lays Tryd.prog 103 = some ([.int .i64 0, .string ByteArray.empty, .string ByteArray.empty, .int .i64 0, .string ByteArray.empty, .string ByteArray.empty, .int .i64 0], (fun i => ([(0, 1), (1, 3), (4, 3)] : List (Nat × Nat)).toArray[i]?)) := by kernel_rfl
theorem map_86 : MapOk Tryd.prog 86 9 24 := ⟨Tryd.underlying86, Tryd.underlying9⟩
theorem map_105 : MapOk Tryd.prog 105 9 3 := ⟨Tryd.underlying105, Tryd.underlying9⟩
theorem sl_22 : SlOk Tryd.prog Un 22 24 (.named 3) := ⟨Tryd.underlying22, ty_24⟩
theorem row_22 : RowOk Tryd.prog Un 22 24 (.named 3) 40 := rowOk_mk (c := 3) sl_22 (by kernel_rfl) rfl (by decide)
theorem sl_40 : SlOk Tryd.prog Un 40 9 .str := ⟨Tryd.underlying40, ty_9⟩
theorem row_40 : RowOk Tryd.prog Un 40 9 .str 16 := rowOk_mk (c := 1) sl_40 (by kernel_rfl) rfl (by decide)
theorem sl_45 : SlOk Tryd.prog Un 45 50 (.named 3) := ⟨Tryd.underlying45, ty_50⟩
theorem row_45 : RowOk Tryd.prog Un 45 50 (.named 3) 40 := rowOk_mk (c := 3) sl_45 (by kernel_rfl) rfl (by decide)
theorem ty_103 : TyOk Tryd.prog Un 103 (.named 6) := tyOk_mk (c := 7) (by kernel_rfl) rfl Tryd.underlying103 rfl
theorem sl_60 : SlOk Tryd.prog Un 60 103 (.named 6) := ⟨Tryd.underlying60, ty_103⟩
theorem row_60 : RowOk Tryd.prog Un 60 103 (.named 6) 88 := rowOk_mk (c := 7) sl_60 (by kernel_rfl) rfl (by decide)
theorem ty_77 : TyOk Tryd.prog Un 77 (.named 7) := tyOk_mk (c := 7) (by kernel_rfl) rfl Tryd.underlying77 rfl
theorem sl_66 : SlOk Tryd.prog Un 66 77 (.named 7) := ⟨Tryd.underlying66, ty_77⟩
theorem row_66 : RowOk Tryd.prog Un 66 77 (.named 7) 88 := rowOk_mk (c := 7) sl_66 (by kernel_rfl) rfl (by decide)
theorem ty_31 : TyOk Tryd.prog Un 31 .err := tyOk_mk (c := 1) (by kernel_rfl) rfl Tryd.underlying31 rfl
theorem sl_95 : SlOk Tryd.prog Un 95 31 .err := ⟨Tryd.underlying95, ty_31⟩
theorem row_95 : RowOk Tryd.prog Un 95 31 .err 16 := rowOk_mk (c := 1) sl_95 (by kernel_rfl) rfl (by decide)
theorem zv_3 : ZeroOk Tryd.prog Un 3 (.int .i64) (0 : Int) := zeroOk_mk (v := (.int .i64 0)) (by kernel_rfl) fun _ _ _ => ⟨_, (.int _ _), rfl⟩
theorem zv_24 : ZeroOk Tryd.prog Un 24 (.named 3) ((TF.mk [] [] 0) : TF) := zeroOk_mk (v := (.agg #[.string ByteArray.empty, .string ByteArray.empty, .int .i64 0])) (by kernel_rfl) fun _ _ _ => ⟨_, (.named _ _ (.pair rd_str0 (.pair rd_str0 (.pair (.int _ _) .unit)))), rfl⟩
theorem mvU : type_of% (@mv Un) := @mv Un
theorem cvR : type_of% (@Conv.refl Un) := @Conv.refl Un
theorem caV : type_of% (@sok_callV Un) := @sok_callV Un
theorem cmU : type_of% (@sok_cmp Un) := @sok_cmp Un
theorem cvK : type_of% (@Conv.keep Un) := @Conv.keep Un
theorem mvA : type_of% (@mva Un) := @mva Un
theorem pkT : type_of% (@sok_pickT Un) := @sok_pickT Un
theorem pkF : type_of% (@sok_pickF Un) := @sok_pickF Un
theorem eqU : type_of% (@sok_eqPN Un) := @sok_eqPN Un
theorem moU : type_of% (@sok_move Un) := @sok_move Un
theorem sqJ : type_of% (@WpC.seqJ Un) := @WpC.seqJ Un
theorem cdU : type_of% (@WpC.cond Un) := @WpC.cond Un
theorem exU : type_of% (@sok_extract Un) := @sok_extract Un
theorem ldB : type_of% (@sok_loadB Un) := @sok_loadB Un
theorem cvT : type_of% (@Conv.trans Un) := @Conv.trans Un
theorem fdB : type_of% (@sok_fieldB Un) := @sok_fieldB Un
theorem neU : type_of% (@sok_neB Un) := @sok_neB Un
theorem nlU : type_of% (@sok_nilCheck Un) := @sok_nilCheck Un
theorem skU : type_of% (@sok_skip Un) := @sok_skip Un
theorem tnU : type_of% (@thenQ_normal Un) := @thenQ_normal Un
theorem m1_ {α : Type _} {a0 a1 : α} {l : List α} : a1 ∈ a0 :: a1 :: l := (.tail _ (.head _))
theorem m2_ {α : Type _} {a0 a1 a2 : α} {l : List α} : a2 ∈ a0 :: a1 :: a2 :: l := (.tail _ (.tail _ (.head _)))
theorem m3_ {α : Type _} {a0 a1 a2 a3 : α} {l : List α} : a3 ∈ a0 :: a1 :: a2 :: a3 :: l := (.tail _ (.tail _ (.tail _ (.head _))))
theorem m4_ {α : Type _} {a0 a1 a2 a3 a4 : α} {l : List α} : a4 ∈ a0 :: a1 :: a2 :: a3 :: a4 :: l := (.tail _ (.tail _ (.tail _ (.tail _ (.head _)))))
theorem m5_ {α : Type _} {a0 a1 a2 a3 a4 a5 : α} {l : List α} : a5 ∈ a0 :: a1 :: a2 :: a3 :: a4 :: a5 :: l := (.tail _ (.tail _ (.tail _ (.tail _ (.tail _ (.head _))))))
theorem m6_ {α : Type _} {a0 a1 a2 a3 a4 a5 a6 : α} {l : List α} : a6 ∈ a0 :: a1 :: a2 :: a3 :: a4 :: a5 :: a6 :: l := (.tail _ (.tail _ (.tail _ (.tail _ (.tail _ (.tail _ (.head _)))))))
theorem m7_ {α : Type _} {a0 a1 a2 a3 a4 a5 a6 a7 : α} {l : List α} : a7 ∈ a0 :: a1 :: a2 :: a3 :: a4 :: a5 :: a6 :: a7 :: l := (.tail _ (.tail _ (.tail _ (.tail _ (.tail _ (.tail _ (.tail _ (.head _))))))))
theorem m8_ {α : Type _} {a0 a1 a2 a3 a4 a5 a6 a7 a8 : α} {l : List α} : a8 ∈ a0 :: a1 :: a2 :: a3 :: a4 :: a5 :: a6 :: a7 :: a8 :: l := (.tail _ (.tail _ (.tail _ (.tail _ (.tail _ (.tail _ (.tail _ (.tail _ (.head _)))))))))
theorem rg3 {O : Out} {P : Program} {B : Base} {id : Nat} {ops : Array Oper} {specs : List (LSpec Un)} {st st' : St Un} {N : Nat} {Q : PostQ Un} (ts ns : List Nat) (hN : B.n = N) (h : OkL Un O P ops ops.toList specs) {st1 : St Un}
    (h3 : (readsOf (ops.toList.zip specs) st, statOk (ops.toList.zip specs) st.names N, (runS (ops.toList.zip specs) st).keep ts ns) = (wants (ops.toList.zip specs), true, st1)) (hc : Conv Un O st1 st') (hq : Q Exit.normal st') : WpC Un O P B (Code.region id ops false) st Q :=
  WpC.reg (U := Un) ts ns hN h (congrArg Prod.fst h3) (congrArg (fun x => x.2.1) h3) (congrArg (fun x => x.2.2) h3) hc hq
theorem rg4 {O : Out} {P : Program} {B : Base} {id : Nat} {ops : Array Oper} {specs : List (LSpec Un)} {st : St Un} {N : Nat} {Q : PostQ Un} (ts ns : List Nat) (hN : B.n = N) (h : OkL Un O P ops ops.toList specs) {st1 : St Un}
    (h3 : (readsOf (ops.toList.zip specs) st, statOk (ops.toList.zip specs) st.names N, (runS (ops.toList.zip specs) st).keep ts ns) = (wants (ops.toList.zip specs), true, st1)) (hq : Q Exit.normal st1) : WpC Un O P B (Code.region id ops false) st Q :=
  rg3 ts ns hN h h3 (Conv.refl st1) hq
theorem tnS {O : Out} {P : Program} {B : Base} {x y : Code} {st : St Un} {Q Q' : PostQ Un} (h : WpC Un O P B x st (thenQ (fun st' => WpC Un O P B y st' Q) Q)) : thenQ (fun st' => WpC Un O P B (x.seq y) st' Q) Q' Exit.normal st := tnU (WpC.seq h)
theorem ckS {O : Out} {P : Program} {B : Base} {c : Code} {st b : St Un} {Q : PostQ Un} (ts ns : List Nat) (h : st.keep ts ns = b) (hq : WpC Un O P B c b Q) : WpC Un O P B c st Q := WpC.conv (Conv.keep ts ns h) hq
theorem sq_ : type_of% (@WpC.seq Un) := @WpC.seq Un
theorem wb_ : type_of% (@WpC.block Un) := @WpC.block Un
theorem ws_ : type_of% (@WpC.skip Un) := @WpC.skip Un
theorem wr_ : type_of% (@WpC.ret Un) := @WpC.ret Un
theorem we_ : type_of% (@WpC.exit Un) := @WpC.exit Un
theorem te_ : type_of% (@thenQ_exit Un) := @thenQ_exit Un
theorem tr_ : type_of% (@thenQ_ret Un) := @thenQ_ret Un
theorem bn_ : type_of% (@blockQ_normal Un) := @blockQ_normal Un
theorem wc_ : type_of% (@WpC.conv Un) := @WpC.conv Un
theorem u0_ : type_of% (@Conv.cast Un) := @Conv.cast Un
theorem u1_ : type_of% (@Conv.closeMap Un) := @Conv.closeMap Un
theorem u2_ : type_of% (@Conv.freeze Un) := @Conv.freeze Un
theorem u3_ : type_of% (@Conv.iterRest Un) := @Conv.iterRest Un
theorem u4_ : type_of% (@Conv.loose Un) := @Conv.loose Un
theorem u5_ : type_of% (@Conv.nilE Un) := @Conv.nilE Un
theorem u6_ : type_of% (@Conv.openB Un) := @Conv.openB Un
theorem u7_ : type_of% (@Conv.openS Un) := @Conv.openS Un
theorem u8_ : type_of% (@Conv.optBlk Un) := @Conv.optBlk Un
theorem u9_ : type_of% (@Conv.optLoc Un) := @Conv.optLoc Un
theorem u10_ : type_of% (@Conv.optNew Un) := @Conv.optNew Un
theorem u11_ : type_of% (@Conv.optNil Un) := @Conv.optNil Un
theorem u12_ : type_of% (@Conv.ren Un) := @Conv.ren Un
theorem u13_ : type_of% (@Conv.thaw Un) := @Conv.thaw Un
theorem u14_ : type_of% (@WpC.loop Un) := @WpC.loop Un
theorem u15_ : type_of% (@WpC.next Un) := @WpC.next Un
theorem u16_ : type_of% (@WpC.openMap Un) := @WpC.openMap Un
theorem u17_ : type_of% (@WpC.regA Un) := @WpC.regA Un
theorem u18_ : type_of% (@sok_allocZ Un) := @sok_allocZ Un
theorem u19_ : type_of% (@sok_append' Un) := @sok_append' Un
theorem u20_ : type_of% (@sok_appendB' Un) := @sok_appendB' Un
theorem u21_ : type_of% (@sok_arith Un) := @sok_arith Un
theorem u22_ : type_of% (@sok_box Un) := @sok_box Un
theorem u23_ : type_of% (@sok_build Un) := @sok_build Un
theorem u24_ : type_of% (@sok_buildSlice Un) := @sok_buildSlice Un
theorem u25_ : type_of% (@sok_call Un) := @sok_call Un
theorem u26_ : type_of% (@sok_callF Un) := @sok_callF Un
theorem u27_ : type_of% (@sok_cmpS Un) := @sok_cmpS Un
theorem u28_ : type_of% (@sok_delete Un) := @sok_delete Un
theorem u29_ : type_of% (@sok_entry Un) := @sok_entry Un
theorem u30_ : type_of% (@sok_eqS Un) := @sok_eqS Un
theorem u31_ : type_of% (@sok_errNil Un) := @sok_errNil Un
theorem u32_ : type_of% (@sok_fieldP Un) := @sok_fieldP Un
theorem u33_ : type_of% (@sok_indexL Un) := @sok_indexL Un
theorem u34_ : type_of% (@sok_indexS Un) := @sok_indexS Un
theorem u35_ : type_of% (@sok_indexV Un) := @sok_indexV Un
theorem u36_ : type_of% (@sok_lenL Un) := @sok_lenL Un
theorem u37_ : type_of% (@sok_lenM Un) := @sok_lenM Un
theorem u38_ : type_of% (@sok_lenS Un) := @sok_lenS Un
theorem u39_ : type_of% (@sok_lenV Un) := @sok_lenV Un
theorem u40_ : type_of% (@sok_loadE Un) := @sok_loadE Un
theorem u41_ : type_of% (@sok_loadG Un) := @sok_loadG Un
theorem u42_ : type_of% (@sok_loadP Un) := @sok_loadP Un
theorem u43_ : type_of% (@sok_lookup Un) := @sok_lookup Un
theorem u44_ : type_of% (@sok_lookup2 Un) := @sok_lookup2 Un
theorem u45_ : type_of% (@sok_makeMap Un) := @sok_makeMap Un
theorem u46_ : type_of% (@sok_mapUpdate Un) := @sok_mapUpdate Un
theorem u47_ : type_of% (@sok_max Un) := @sok_max Un
theorem u48_ : type_of% (@sok_neG Un) := @sok_neG Un
theorem u49_ : type_of% (@sok_neS Un) := @sok_neS Un
theorem u50_ : type_of% (@sok_not Un) := @sok_not Un
theorem u51_ : type_of% (@sok_range Un) := @sok_range Un
theorem u52_ : type_of% (@sok_sliceL Un) := @sok_sliceL Un
theorem u53_ : type_of% (@sok_sliceV Un) := @sok_sliceV Un
theorem u54_ : type_of% (@sok_storeB Un) := @sok_storeB Un
theorem u55_ : type_of% (@sok_thawU Un) := @sok_thawU Un
end Go.Proofs.YtkdpaglpieamgaaDoor
