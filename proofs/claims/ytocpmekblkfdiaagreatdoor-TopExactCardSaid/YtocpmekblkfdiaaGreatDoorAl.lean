/- The abstract walk, twelfth part: the table of types; the contracts of nat, rat, vernierref1, vernierref2 as denotations. Conditions: numbers of limbs as each one says. -/
import Derived.Test.YtocpmekblkfdiaaGreatDoorAj
import Derived.Test.YtocpmekblkfdiaaGreatDoorEqs
import Derived.Test.YtocpmekblkfdiaaGreatDoorGG
namespace Go.Proofs.YtocpmekblkfdiaaGreatDoor
open Go.RowKit
theorem info_of {P : Program} {t : Nat} {z : Value} {n : Nat} (h : (P.info? t).map (fun i => (i.zero, i.size, decide (i.bytes ≤ 136))) = some (some z, n, true)) : ∃ i, P.info? t = some i ∧ i.zero = some z ∧ i.size = n ∧ i.bytes ≤ 136 := by
  obtain ⟨i, hi, he⟩ := Option.map_eq_some_iff.1 h
  simp only [Prod.mk.injEq, decide_eq_true_eq] at he
  exact ⟨i, hi, he.1, he.2.1, he.2.2⟩
@[go_sem] def desc_bool : TypeDesc := .bool
@[go_sem] def z_bool : A1 := .cel (.bool false)
def ti_bool : TI := ⟨1, false, .bool false, z_bool, desc_bool⟩
theorem ti_bool_info : (Tryz.prog.info? 4).map (fun i => (i.zero, i.size, decide (i.bytes ≤ 136))) = some (some (.bool false : Value), 1, true) := by kernel_rfl
theorem ti_bool_ok : TIOk Tryz.prog 4 ti_bool := ⟨info_of ti_bool_info, Tryz.sizeOf4, Tryz.isAgg4, Tryz.zeroValue4, Tryz.underlying4, fun _ _ => rfl, rfl, fun _ => rfl⟩
@[go_sem] def desc_int : TypeDesc := .int .i64
@[go_sem] def z_int : A1 := .cel (.int .i64 0)
def ti_int : TI := ⟨1, false, .int .i64 0, z_int, desc_int⟩
theorem ti_int_info : (Tryz.prog.info? 3).map (fun i => (i.zero, i.size, decide (i.bytes ≤ 136))) = some (some (.int .i64 0 : Value), 1, true) := by kernel_rfl
theorem ti_int_ok : TIOk Tryz.prog 3 ti_int := ⟨info_of ti_int_info, Tryz.sizeOf3, Tryz.isAgg3, Tryz.zeroValue3, Tryz.underlying3, fun _ _ => rfl, rfl, fun _ => rfl⟩
@[go_sem] def desc_uint : TypeDesc := .int .u64
@[go_sem] def z_uint : A1 := .cel (.int .u64 0)
def ti_uint : TI := ⟨1, false, .int .u64 0, z_uint, desc_uint⟩
theorem ti_uint_info : (Tryz.prog.info? 66).map (fun i => (i.zero, i.size, decide (i.bytes ≤ 136))) = some (some (.int .u64 0 : Value), 1, true) := by kernel_rfl
theorem ti_uint_ok : TIOk Tryz.prog 66 ti_uint := ⟨info_of ti_uint_info, Tryz.sizeOf66, Tryz.isAgg66, Tryz.zeroValue66, Tryz.underlying66, fun _ _ => rfl, rfl, fun _ => rfl⟩
@[go_sem] def desc_uint64 : TypeDesc := .int .u64
@[go_sem] def z_uint64 : A1 := .cel (.int .u64 0)
def ti_uint64 : TI := ⟨1, false, .int .u64 0, z_uint64, desc_uint64⟩
theorem ti_uint64_info : (Tryz.prog.info? 43).map (fun i => (i.zero, i.size, decide (i.bytes ≤ 136))) = some (some (.int .u64 0 : Value), 1, true) := by kernel_rfl
theorem ti_uint64_ok : TIOk Tryz.prog 43 ti_uint64 := ⟨info_of ti_uint64_info, Tryz.sizeOf43, Tryz.isAgg43, Tryz.zeroValue43, Tryz.underlying43, fun _ _ => rfl, rfl, fun _ => rfl⟩
@[go_sem] def desc_uint32 : TypeDesc := .int .u32
@[go_sem] def z_uint32 : A1 := .cel (.int .u32 0)
def ti_uint32 : TI := ⟨1, false, .int .u32 0, z_uint32, desc_uint32⟩
theorem ti_uint32_info : (Tryz.prog.info? 46).map (fun i => (i.zero, i.size, decide (i.bytes ≤ 136))) = some (some (.int .u32 0 : Value), 1, true) := by kernel_rfl
theorem ti_uint32_ok : TIOk Tryz.prog 46 ti_uint32 := ⟨info_of ti_uint32_info, Tryz.sizeOf46, Tryz.isAgg46, Tryz.zeroValue46, Tryz.underlying46, fun _ _ => rfl, rfl, fun _ => rfl⟩
@[go_sem] def desc___uint32 : TypeDesc := .slice 46
@[go_sem] def z___uint32 : A1 := .cel .nil
def ti___uint32 : TI := ⟨1, false, .slice none 0 0, z___uint32, desc___uint32⟩
theorem ti___uint32_info : (Tryz.prog.info? 22).map (fun i => (i.zero, i.size, decide (i.bytes ≤ 136))) = some (some (.slice none 0 0 : Value), 1, true) := by kernel_rfl
theorem ti___uint32_ok : TIOk Tryz.prog 22 ti___uint32 := ⟨info_of ti___uint32_info, Tryz.sizeOf22, Tryz.isAgg22, Tryz.zeroValue22, Tryz.underlying22, fun _ _ => rfl, rfl, fun _ => rfl⟩
def flds_api_Rat : Array Field := #[{ name := "Neg", type := 4, offset := 0, embedded := false, tag := "", pkgPath := "", byteOffset := 0 }, { name := "N", type := 22, offset := 1, embedded := false, tag := "", pkgPath := "", byteOffset := 8 }, { name := "D", type := 22, offset := 2, embedded := false, tag := "", pkgPath := "", byteOffset := 32 }]
def desc_api_Rat : TypeDesc := .struct flds_api_Rat
@[go_sem] def z_api_Rat : A1 := .agg [.bool false, .nil, .nil]
def ti_api_Rat : TI := ⟨3, true, .agg #[.bool false, .slice none 0 0, .slice none 0 0], z_api_Rat, desc_api_Rat⟩
theorem ti_api_Rat_info : (Tryz.prog.info? 24).map (fun i => (i.zero, i.size, decide (i.bytes ≤ 136))) = some (some (.agg #[.bool false, .slice none 0 0, .slice none 0 0] : Value), 3, true) := by kernel_rfl
theorem ti_api_Rat_ok : TIOk Tryz.prog 24 ti_api_Rat := ⟨info_of ti_api_Rat_info, Tryz.sizeOf24, Tryz.isAgg24, Tryz.zeroValue24, Tryz.underlying24, fun _ _ => ⟨_, rfl, .cons rfl (.cons rfl (.cons rfl (.nil)))⟩, rfl, fun h => by cases h⟩
def flds_api_Ball : Array Field := #[{ name := "Lo", type := 24, offset := 0, embedded := false, tag := "", pkgPath := "", byteOffset := 0 }, { name := "Hi", type := 24, offset := 3, embedded := false, tag := "", pkgPath := "", byteOffset := 56 }]
def desc_api_Ball : TypeDesc := .struct flds_api_Ball
@[go_sem] def z_api_Ball : A1 := .agg [.bool false, .nil, .nil, .bool false, .nil, .nil]
def ti_api_Ball : TI := ⟨6, true, .agg #[.bool false, .slice none 0 0, .slice none 0 0, .bool false, .slice none 0 0, .slice none 0 0], z_api_Ball, desc_api_Ball⟩
theorem ti_api_Ball_info : (Tryz.prog.info? 28).map (fun i => (i.zero, i.size, decide (i.bytes ≤ 136))) = some (some (.agg #[.bool false, .slice none 0 0, .slice none 0 0, .bool false, .slice none 0 0, .slice none 0 0] : Value), 6, true) := by kernel_rfl
theorem ti_api_Ball_ok : TIOk Tryz.prog 28 ti_api_Ball := ⟨info_of ti_api_Ball_info, Tryz.sizeOf28, Tryz.isAgg28, Tryz.zeroValue28, Tryz.underlying28, fun _ _ => ⟨_, rfl, .cons rfl (.cons rfl (.cons rfl (.cons rfl (.cons rfl (.cons rfl (.nil))))))⟩, rfl, fun h => by cases h⟩
@[go_sem] def desc___api_Rat : TypeDesc := .slice 24
@[go_sem] def z___api_Rat : A1 := .cel .nil
def ti___api_Rat : TI := ⟨1, false, .slice none 0 0, z___api_Rat, desc___api_Rat⟩
theorem ti___api_Rat_info : (Tryz.prog.info? 189).map (fun i => (i.zero, i.size, decide (i.bytes ≤ 136))) = some (some (.slice none 0 0 : Value), 1, true) := by kernel_rfl
theorem ti___api_Rat_ok : TIOk Tryz.prog 189 ti___api_Rat := ⟨info_of ti___api_Rat_info, Tryz.sizeOf189, Tryz.isAgg189, Tryz.zeroValue189, Tryz.underlying189, fun _ _ => rfl, rfl, fun _ => rfl⟩
@[go_sem] def desc_api_Errno : TypeDesc := .int .i64
@[go_sem] def z_api_Errno : A1 := .cel (.int .i64 0)
def ti_api_Errno : TI := ⟨1, false, .int .i64 0, z_api_Errno, desc_api_Errno⟩
theorem ti_api_Errno_info : (Tryz.prog.info? 29).map (fun i => (i.zero, i.size, decide (i.bytes ≤ 136))) = some (some (.int .i64 0 : Value), 1, true) := by kernel_rfl
theorem ti_api_Errno_ok : TIOk Tryz.prog 29 ti_api_Errno := ⟨info_of ti_api_Errno_info, Tryz.sizeOf29, Tryz.isAgg29, Tryz.zeroValue29, Tryz.underlying29, fun _ _ => rfl, rfl, fun _ => rfl⟩
@[go_sem] def desc_____uint32 : TypeDesc := .slice 22
@[go_sem] def z_____uint32 : A1 := .cel .nil
def ti_____uint32 : TI := ⟨1, false, .slice none 0 0, z_____uint32, desc_____uint32⟩
theorem ti_____uint32_info : (Tryz.prog.info? 51).map (fun i => (i.zero, i.size, decide (i.bytes ≤ 136))) = some (some (.slice none 0 0 : Value), 1, true) := by kernel_rfl
theorem ti_____uint32_ok : TIOk Tryz.prog 51 ti_____uint32 := ⟨info_of ti_____uint32_info, Tryz.sizeOf51, Tryz.isAgg51, Tryz.zeroValue51, Tryz.underlying51, fun _ _ => rfl, rfl, fun _ => rfl⟩
@[go_sem] def desc_____api_Rat : TypeDesc := .slice 189
@[go_sem] def z_____api_Rat : A1 := .cel .nil
def ti_____api_Rat : TI := ⟨1, false, .slice none 0 0, z_____api_Rat, desc_____api_Rat⟩
theorem ti_____api_Rat_info : (Tryz.prog.info? 206).map (fun i => (i.zero, i.size, decide (i.bytes ≤ 136))) = some (some (.slice none 0 0 : Value), 1, true) := by kernel_rfl
theorem ti_____api_Rat_ok : TIOk Tryz.prog 206 ti_____api_Rat := ⟨info_of ti_____api_Rat_info, Tryz.sizeOf206, Tryz.isAgg206, Tryz.zeroValue206, Tryz.underlying206, fun _ _ => rfl, rfl, fun _ => rfl⟩
def flds_fix_Span : Array Field := #[{ name := "Lo", type := 22, offset := 0, embedded := false, tag := "", pkgPath := "", byteOffset := 0 }, { name := "Hi", type := 22, offset := 1, embedded := false, tag := "", pkgPath := "", byteOffset := 24 }]
def desc_fix_Span : TypeDesc := .struct flds_fix_Span
@[go_sem] def z_fix_Span : A1 := .agg [.nil, .nil]
def ti_fix_Span : TI := ⟨2, true, .agg #[.slice none 0 0, .slice none 0 0], z_fix_Span, desc_fix_Span⟩
theorem ti_fix_Span_info : (Tryz.prog.info? 115).map (fun i => (i.zero, i.size, decide (i.bytes ≤ 136))) = some (some (.agg #[.slice none 0 0, .slice none 0 0] : Value), 2, true) := by kernel_rfl
theorem ti_fix_Span_ok : TIOk Tryz.prog 115 ti_fix_Span := ⟨info_of ti_fix_Span_info, Tryz.sizeOf115, Tryz.isAgg115, Tryz.zeroValue115, Tryz.underlying115, fun _ _ => ⟨_, rfl, .cons rfl (.cons rfl (.nil))⟩, rfl, fun h => by cases h⟩
@[go_sem] def desc___fix_Span : TypeDesc := .slice 115
@[go_sem] def z___fix_Span : A1 := .cel .nil
def ti___fix_Span : TI := ⟨1, false, .slice none 0 0, z___fix_Span, desc___fix_Span⟩
theorem ti___fix_Span_info : (Tryz.prog.info? 166).map (fun i => (i.zero, i.size, decide (i.bytes ≤ 136))) = some (some (.slice none 0 0 : Value), 1, true) := by kernel_rfl
theorem ti___fix_Span_ok : TIOk Tryz.prog 166 ti___fix_Span := ⟨info_of ti___fix_Span_info, Tryz.sizeOf166, Tryz.isAgg166, Tryz.zeroValue166, Tryz.underlying166, fun _ _ => rfl, rfl, fun _ => rfl⟩
@[go_sem] def desc_string : TypeDesc := .string
@[go_sem] def z_string : A1 := .cel (.str [])
def ti_string : TI := ⟨1, false, .string .empty, z_string, desc_string⟩
theorem ti_string_info : (Tryz.prog.info? 9).map (fun i => (i.zero, i.size, decide (i.bytes ≤ 136))) = some (some (.string .empty : Value), 1, true) := by kernel_rfl
theorem ti_string_ok : TIOk Tryz.prog 9 ti_string := ⟨info_of ti_string_info, Tryz.sizeOf9, Tryz.isAgg9, Tryz.zeroValue9, Tryz.underlying9, fun _ _ => ⟨rfl, fun _ h => by cases h⟩, rfl, fun _ => rfl⟩
@[go_sem] def desc_uint8 : TypeDesc := .int .u8
@[go_sem] def z_uint8 : A1 := .cel (.int .u8 0)
def ti_uint8 : TI := ⟨1, false, .int .u8 0, z_uint8, desc_uint8⟩
theorem ti_uint8_info : (Tryz.prog.info? 5).map (fun i => (i.zero, i.size, decide (i.bytes ≤ 136))) = some (some (.int .u8 0 : Value), 1, true) := by kernel_rfl
theorem ti_uint8_ok : TIOk Tryz.prog 5 ti_uint8 := ⟨info_of ti_uint8_info, Tryz.sizeOf5, Tryz.isAgg5, Tryz.zeroValue5, Tryz.underlying5, fun _ _ => rfl, rfl, fun _ => rfl⟩
@[go_sem] def desc___uint8 : TypeDesc := .slice 5
@[go_sem] def z___uint8 : A1 := .cel .nil
def ti___uint8 : TI := ⟨1, false, .slice none 0 0, z___uint8, desc___uint8⟩
theorem ti___uint8_info : (Tryz.prog.info? 95).map (fun i => (i.zero, i.size, decide (i.bytes ≤ 136))) = some (some (.slice none 0 0 : Value), 1, true) := by kernel_rfl
theorem ti___uint8_ok : TIOk Tryz.prog 95 ti___uint8 := ⟨info_of ti___uint8_info, Tryz.sizeOf95, Tryz.isAgg95, Tryz.zeroValue95, Tryz.underlying95, fun _ _ => rfl, rfl, fun _ => rfl⟩
def flds_api_Dist : Array Field := #[{ name := "Kind", type := 3, offset := 0, embedded := false, tag := "", pkgPath := "", byteOffset := 0 }, { name := "N", type := 3, offset := 1, embedded := false, tag := "", pkgPath := "", byteOffset := 8 }, { name := "M", type := 3, offset := 2, embedded := false, tag := "", pkgPath := "", byteOffset := 16 }, { name := "A", type := 24, offset := 3, embedded := false, tag := "", pkgPath := "", byteOffset := 24 }, { name := "B", type := 24, offset := 6, embedded := false, tag := "", pkgPath := "", byteOffset := 80 }]
def desc_api_Dist : TypeDesc := .struct flds_api_Dist
@[go_sem] def z_api_Dist : A1 := .agg [.int .i64 0, .int .i64 0, .int .i64 0, .bool false, .nil, .nil, .bool false, .nil, .nil]
def ti_api_Dist : TI := ⟨9, true, .agg #[.int .i64 0, .int .i64 0, .int .i64 0, .bool false, .slice none 0 0, .slice none 0 0, .bool false, .slice none 0 0, .slice none 0 0], z_api_Dist, desc_api_Dist⟩
theorem ti_api_Dist_info : (Tryz.prog.info? 33).map (fun i => (i.zero, i.size, decide (i.bytes ≤ 136))) = some (some (.agg #[.int .i64 0, .int .i64 0, .int .i64 0, .bool false, .slice none 0 0, .slice none 0 0, .bool false, .slice none 0 0, .slice none 0 0] : Value), 9, true) := by kernel_rfl
theorem ti_api_Dist_ok : TIOk Tryz.prog 33 ti_api_Dist := ⟨info_of ti_api_Dist_info, Tryz.sizeOf33, Tryz.isAgg33, Tryz.zeroValue33, Tryz.underlying33, fun _ _ => ⟨_, rfl, .cons rfl (.cons rfl (.cons rfl (.cons rfl (.cons rfl (.cons rfl (.cons rfl (.cons rfl (.cons rfl (.nil)))))))))⟩, rfl, fun h => by cases h⟩
def ttOf : List (Nat × TI) → Nat → Option TI
  | [], _ => none
  | (t, ti) :: l, n => if (n == t) = true then some ti else ttOf l n
def TTAll (P : Program) : List (Nat × TI) → Prop
  | [] => True
  | (t, ti) :: l => TIOk P t ti ∧ TTAll P l
theorem ttOf_ok {P : Program} : ∀ {l : List (Nat × TI)}, TTAll P l → TTOk P (ttOf l)
  | [], _, t, ti, h => by cases h
  | (t', ti') :: l, h, t, ti, ht => by
    unfold ttOf at ht
    split at ht
    · rename_i he; cases ht; rw [beq_iff_eq.1 he]; exact h.1
    · exact ttOf_ok h.2 t ti ht
def TT : Nat → Option TI := ttOf [(4, ti_bool), (3, ti_int), (66, ti_uint), (43, ti_uint64), (46, ti_uint32), (22, ti___uint32), (24, ti_api_Rat), (28, ti_api_Ball), (189, ti___api_Rat), (29, ti_api_Errno), (51, ti_____uint32), (206, ti_____api_Rat), (115, ti_fix_Span), (166, ti___fix_Span), (9, ti_string), (5, ti_uint8), (95, ti___uint8), (33, ti_api_Dist)]
theorem TT_ok : TTOk Tryz.prog TT := ttOf_ok ⟨ti_bool_ok, ti_int_ok, ti_uint_ok, ti_uint64_ok, ti_uint32_ok, ti___uint32_ok, ti_api_Rat_ok, ti_api_Ball_ok, ti___api_Rat_ok, ti_api_Errno_ok, ti_____uint32_ok, ti_____api_Rat_ok, ti_fix_Span_ok, ti___fix_Span_ok, ti_string_ok, ti_uint8_ok, ti___uint8_ok, ti_api_Dist_ok, trivial⟩
@[go_sem] theorem TT_ti_bool : TT 4 = some ti_bool := rfl
@[go_sem] theorem TT_ti_int : TT 3 = some ti_int := rfl
@[go_sem] theorem TT_ti_uint : TT 66 = some ti_uint := rfl
@[go_sem] theorem TT_ti_uint64 : TT 43 = some ti_uint64 := rfl
@[go_sem] theorem TT_ti_uint32 : TT 46 = some ti_uint32 := rfl
@[go_sem] theorem TT_ti___uint32 : TT 22 = some ti___uint32 := rfl
@[go_sem] theorem TT_ti_api_Rat : TT 24 = some ti_api_Rat := rfl
@[go_sem] theorem TT_ti_api_Ball : TT 28 = some ti_api_Ball := rfl
@[go_sem] theorem TT_ti___api_Rat : TT 189 = some ti___api_Rat := rfl
@[go_sem] theorem TT_ti_api_Errno : TT 29 = some ti_api_Errno := rfl
@[go_sem] theorem TT_ti_____uint32 : TT 51 = some ti_____uint32 := rfl
@[go_sem] theorem TT_ti_____api_Rat : TT 206 = some ti_____api_Rat := rfl
@[go_sem] theorem TT_ti_fix_Span : TT 115 = some ti_fix_Span := rfl
@[go_sem] theorem TT_ti___fix_Span : TT 166 = some ti___fix_Span := rfl
@[go_sem] theorem TT_ti_string : TT 9 = some ti_string := rfl
@[go_sem] theorem TT_ti_uint8 : TT 5 = some ti_uint8 := rfl
@[go_sem] theorem TT_ti___uint8 : TT 95 = some ti___uint8 := rfl
@[go_sem] theorem TT_ti_api_Dist : TT 33 = some ti_api_Dist := rfl
section
variable {N : Nat} {fn : Nat → Option Den} {fz : Nat → List Nat} {id off : Nat} {cs : List CV} {ins : List AV}
@[go_sem] theorem rk_tt_bool : Env.tt ⟨N, TT, fn, fz⟩ 4 = some ti_bool := rfl
@[go_sem] theorem rk_desc_bool : Env.desc ⟨N, TT, fn, fz⟩ 4 = desc_bool := rfl
@[go_sem] theorem rk_sz_bool : Env.sz ⟨N, TT, fn, fz⟩ 4 = 1 := rfl
@[go_sem] theorem rk_nl_bool {x : Operand} : needsOf ⟨N, TT, fn, fz⟩ (.load 4 x) [.one (.cel (.ptr id off))] = [(id, off + 1)] := rfl
@[go_sem] theorem rk_ns_bool {x y : Operand} {v : AV} : needsOf ⟨N, TT, fn, fz⟩ (.store 4 x y) [.one (.cel (.ptr id off)), v] = [(id, off + 1)] := rfl
@[go_sem] theorem rk_np_bool {x : Operand} : needsOf ⟨N, TT, fn, fz⟩ (.load 4 x) [.one (.cel (.pto cs))] = [] := rfl
@[go_sem] theorem rk_load_bool {c0 : CV} : loadAV (some ti_bool) [.one (.cel (.ptr id off))] [some (.cv c0)] = (True, .one (.cel c0)) := rfl
@[go_sem] theorem rk_lpto_bool {c0 : CV} : loadAV (some ti_bool) [.one (.cel (.pto (c0 :: cs)))] [] = (True, .one (.cel c0.strip)) := by
  simp [loadAV, ti_bool, ofCells]
@[go_sem] theorem rk_di_bool : ti_bool.desc = desc_bool := rfl
@[go_sem] theorem rk_z_bool : ti_bool.z1 = z_bool := rfl
@[go_sem] theorem rk_agg_bool : ti_bool.agg = false := rfl
@[go_sem] theorem rk_size_bool : ti_bool.size = 1 := rfl
@[go_sem] theorem rk_tt_int : Env.tt ⟨N, TT, fn, fz⟩ 3 = some ti_int := rfl
@[go_sem] theorem rk_desc_int : Env.desc ⟨N, TT, fn, fz⟩ 3 = desc_int := rfl
@[go_sem] theorem rk_sz_int : Env.sz ⟨N, TT, fn, fz⟩ 3 = 1 := rfl
@[go_sem] theorem rk_nl_int {x : Operand} : needsOf ⟨N, TT, fn, fz⟩ (.load 3 x) [.one (.cel (.ptr id off))] = [(id, off + 1)] := rfl
@[go_sem] theorem rk_ns_int {x y : Operand} {v : AV} : needsOf ⟨N, TT, fn, fz⟩ (.store 3 x y) [.one (.cel (.ptr id off)), v] = [(id, off + 1)] := rfl
@[go_sem] theorem rk_np_int {x : Operand} : needsOf ⟨N, TT, fn, fz⟩ (.load 3 x) [.one (.cel (.pto cs))] = [] := rfl
@[go_sem] theorem rk_load_int {c0 : CV} : loadAV (some ti_int) [.one (.cel (.ptr id off))] [some (.cv c0)] = (True, .one (.cel c0)) := rfl
@[go_sem] theorem rk_lpto_int {c0 : CV} : loadAV (some ti_int) [.one (.cel (.pto (c0 :: cs)))] [] = (True, .one (.cel c0.strip)) := by
  simp [loadAV, ti_int, ofCells]
@[go_sem] theorem rk_di_int : ti_int.desc = desc_int := rfl
@[go_sem] theorem rk_z_int : ti_int.z1 = z_int := rfl
@[go_sem] theorem rk_agg_int : ti_int.agg = false := rfl
@[go_sem] theorem rk_size_int : ti_int.size = 1 := rfl
@[go_sem] theorem rk_tt_uint : Env.tt ⟨N, TT, fn, fz⟩ 66 = some ti_uint := rfl
@[go_sem] theorem rk_desc_uint : Env.desc ⟨N, TT, fn, fz⟩ 66 = desc_uint := rfl
@[go_sem] theorem rk_sz_uint : Env.sz ⟨N, TT, fn, fz⟩ 66 = 1 := rfl
@[go_sem] theorem rk_nl_uint {x : Operand} : needsOf ⟨N, TT, fn, fz⟩ (.load 66 x) [.one (.cel (.ptr id off))] = [(id, off + 1)] := rfl
@[go_sem] theorem rk_ns_uint {x y : Operand} {v : AV} : needsOf ⟨N, TT, fn, fz⟩ (.store 66 x y) [.one (.cel (.ptr id off)), v] = [(id, off + 1)] := rfl
@[go_sem] theorem rk_np_uint {x : Operand} : needsOf ⟨N, TT, fn, fz⟩ (.load 66 x) [.one (.cel (.pto cs))] = [] := rfl
@[go_sem] theorem rk_load_uint {c0 : CV} : loadAV (some ti_uint) [.one (.cel (.ptr id off))] [some (.cv c0)] = (True, .one (.cel c0)) := rfl
@[go_sem] theorem rk_lpto_uint {c0 : CV} : loadAV (some ti_uint) [.one (.cel (.pto (c0 :: cs)))] [] = (True, .one (.cel c0.strip)) := by
  simp [loadAV, ti_uint, ofCells]
@[go_sem] theorem rk_di_uint : ti_uint.desc = desc_uint := rfl
@[go_sem] theorem rk_z_uint : ti_uint.z1 = z_uint := rfl
@[go_sem] theorem rk_agg_uint : ti_uint.agg = false := rfl
@[go_sem] theorem rk_size_uint : ti_uint.size = 1 := rfl
@[go_sem] theorem rk_tt_uint64 : Env.tt ⟨N, TT, fn, fz⟩ 43 = some ti_uint64 := rfl
@[go_sem] theorem rk_desc_uint64 : Env.desc ⟨N, TT, fn, fz⟩ 43 = desc_uint64 := rfl
@[go_sem] theorem rk_sz_uint64 : Env.sz ⟨N, TT, fn, fz⟩ 43 = 1 := rfl
@[go_sem] theorem rk_nl_uint64 {x : Operand} : needsOf ⟨N, TT, fn, fz⟩ (.load 43 x) [.one (.cel (.ptr id off))] = [(id, off + 1)] := rfl
@[go_sem] theorem rk_ns_uint64 {x y : Operand} {v : AV} : needsOf ⟨N, TT, fn, fz⟩ (.store 43 x y) [.one (.cel (.ptr id off)), v] = [(id, off + 1)] := rfl
@[go_sem] theorem rk_np_uint64 {x : Operand} : needsOf ⟨N, TT, fn, fz⟩ (.load 43 x) [.one (.cel (.pto cs))] = [] := rfl
@[go_sem] theorem rk_load_uint64 {c0 : CV} : loadAV (some ti_uint64) [.one (.cel (.ptr id off))] [some (.cv c0)] = (True, .one (.cel c0)) := rfl
@[go_sem] theorem rk_lpto_uint64 {c0 : CV} : loadAV (some ti_uint64) [.one (.cel (.pto (c0 :: cs)))] [] = (True, .one (.cel c0.strip)) := by
  simp [loadAV, ti_uint64, ofCells]
@[go_sem] theorem rk_di_uint64 : ti_uint64.desc = desc_uint64 := rfl
@[go_sem] theorem rk_z_uint64 : ti_uint64.z1 = z_uint64 := rfl
@[go_sem] theorem rk_agg_uint64 : ti_uint64.agg = false := rfl
@[go_sem] theorem rk_size_uint64 : ti_uint64.size = 1 := rfl
@[go_sem] theorem rk_tt_uint32 : Env.tt ⟨N, TT, fn, fz⟩ 46 = some ti_uint32 := rfl
@[go_sem] theorem rk_desc_uint32 : Env.desc ⟨N, TT, fn, fz⟩ 46 = desc_uint32 := rfl
@[go_sem] theorem rk_sz_uint32 : Env.sz ⟨N, TT, fn, fz⟩ 46 = 1 := rfl
@[go_sem] theorem rk_nl_uint32 {x : Operand} : needsOf ⟨N, TT, fn, fz⟩ (.load 46 x) [.one (.cel (.ptr id off))] = [(id, off + 1)] := rfl
@[go_sem] theorem rk_ns_uint32 {x y : Operand} {v : AV} : needsOf ⟨N, TT, fn, fz⟩ (.store 46 x y) [.one (.cel (.ptr id off)), v] = [(id, off + 1)] := rfl
@[go_sem] theorem rk_np_uint32 {x : Operand} : needsOf ⟨N, TT, fn, fz⟩ (.load 46 x) [.one (.cel (.pto cs))] = [] := rfl
@[go_sem] theorem rk_load_uint32 {c0 : CV} : loadAV (some ti_uint32) [.one (.cel (.ptr id off))] [some (.cv c0)] = (True, .one (.cel c0)) := rfl
@[go_sem] theorem rk_lpto_uint32 {c0 : CV} : loadAV (some ti_uint32) [.one (.cel (.pto (c0 :: cs)))] [] = (True, .one (.cel c0.strip)) := by
  simp [loadAV, ti_uint32, ofCells]
@[go_sem] theorem rk_di_uint32 : ti_uint32.desc = desc_uint32 := rfl
@[go_sem] theorem rk_z_uint32 : ti_uint32.z1 = z_uint32 := rfl
@[go_sem] theorem rk_agg_uint32 : ti_uint32.agg = false := rfl
@[go_sem] theorem rk_size_uint32 : ti_uint32.size = 1 := rfl
@[go_sem] theorem rk_tt___uint32 : Env.tt ⟨N, TT, fn, fz⟩ 22 = some ti___uint32 := rfl
@[go_sem] theorem rk_desc___uint32 : Env.desc ⟨N, TT, fn, fz⟩ 22 = desc___uint32 := rfl
@[go_sem] theorem rk_sz___uint32 : Env.sz ⟨N, TT, fn, fz⟩ 22 = 1 := rfl
@[go_sem] theorem rk_nl___uint32 {x : Operand} : needsOf ⟨N, TT, fn, fz⟩ (.load 22 x) [.one (.cel (.ptr id off))] = [(id, off + 1)] := rfl
@[go_sem] theorem rk_ns___uint32 {x y : Operand} {v : AV} : needsOf ⟨N, TT, fn, fz⟩ (.store 22 x y) [.one (.cel (.ptr id off)), v] = [(id, off + 1)] := rfl
@[go_sem] theorem rk_np___uint32 {x : Operand} : needsOf ⟨N, TT, fn, fz⟩ (.load 22 x) [.one (.cel (.pto cs))] = [] := rfl
@[go_sem] theorem rk_load___uint32 {c0 : CV} : loadAV (some ti___uint32) [.one (.cel (.ptr id off))] [some (.cv c0)] = (True, .one (.cel c0)) := rfl
@[go_sem] theorem rk_lpto___uint32 {c0 : CV} : loadAV (some ti___uint32) [.one (.cel (.pto (c0 :: cs)))] [] = (True, .one (.cel c0.strip)) := by
  simp [loadAV, ti___uint32, ofCells]
@[go_sem] theorem rk_di___uint32 : ti___uint32.desc = desc___uint32 := rfl
@[go_sem] theorem rk_z___uint32 : ti___uint32.z1 = z___uint32 := rfl
@[go_sem] theorem rk_agg___uint32 : ti___uint32.agg = false := rfl
@[go_sem] theorem rk_size___uint32 : ti___uint32.size = 1 := rfl
@[go_sem] theorem rk_tt_api_Rat : Env.tt ⟨N, TT, fn, fz⟩ 24 = some ti_api_Rat := rfl
@[go_sem] theorem rk_desc_api_Rat : Env.desc ⟨N, TT, fn, fz⟩ 24 = desc_api_Rat := rfl
@[go_sem] theorem rk_sz_api_Rat : Env.sz ⟨N, TT, fn, fz⟩ 24 = 3 := rfl
@[go_sem] theorem rk_nl_api_Rat {x : Operand} : needsOf ⟨N, TT, fn, fz⟩ (.load 24 x) [.one (.cel (.ptr id off))] = [(id, off + 1), (id, off + 2), (id, off + 3)] := rfl
@[go_sem] theorem rk_ns_api_Rat {x y : Operand} {v : AV} : needsOf ⟨N, TT, fn, fz⟩ (.store 24 x y) [.one (.cel (.ptr id off)), v] = [(id, off + 1), (id, off + 2), (id, off + 3)] := rfl
@[go_sem] theorem rk_np_api_Rat {x : Operand} : needsOf ⟨N, TT, fn, fz⟩ (.load 24 x) [.one (.cel (.pto cs))] = [] := rfl
@[go_sem] theorem rk_load_api_Rat {c0 c1 c2 : CV} : loadAV (some ti_api_Rat) [.one (.cel (.ptr id off))] [some (.cv c0), some (.cv c1), some (.cv c2)] = (True, .one (.agg [c0, c1, c2])) := rfl
@[go_sem] theorem rk_lpto_api_Rat {c0 c1 c2 : CV} : loadAV (some ti_api_Rat) [.one (.cel (.pto (c0 :: c1 :: c2 :: cs)))] [] = (True, .one (.agg [c0.strip, c1.strip, c2.strip])) := by
  simp [loadAV, ti_api_Rat, ofCells]
@[go_sem] theorem rk_z_api_Rat : ti_api_Rat.z1 = z_api_Rat := rfl
@[go_sem] theorem rk_agg_api_Rat : ti_api_Rat.agg = true := rfl
@[go_sem] theorem rk_size_api_Rat : ti_api_Rat.size = 3 := rfl
@[go_sem] theorem rk_d_api_Rat : ti_api_Rat.desc = .struct flds_api_Rat := rfl
@[go_sem] theorem rk_all2_api_Rat : (flds_api_Rat.all fun f => (TT f.type).isSome) = true := by simp [flds_api_Rat, TT, ttOf]
@[go_sem] theorem rk_all_api_Rat : (flds_api_Rat.all fun f => (Env.tt ⟨N, TT, fn, fz⟩ f.type).isSome) = true := by simp [flds_api_Rat, TT, ttOf]
@[go_sem] theorem rk_fa_api_Rat_0 : fieldAddrAV ⟨N, TT, fn, fz⟩ desc_api_Rat 0 [.one (.cel (.ptr id off))] = (True, .one (.cel (.ptr id (off + 0)))) :=
  Prod.ext (eq_true (show 1 ≠ 0 by omega)) rfl
@[go_sem] theorem rk_fp_api_Rat_0 : fieldAddrAV ⟨N, TT, fn, fz⟩ desc_api_Rat 0 [.one (.cel (.pto cs))] = (0 ≤ cs.length, .one (.cel (.pto (cs.drop 0)))) :=
  Prod.ext (propext ⟨fun h => h.2, fun h => ⟨show 1 ≠ 0 by omega, h⟩⟩) rfl
@[go_sem] theorem rk_f_api_Rat_0 : fieldAV ⟨N, TT, fn, fz⟩ desc_api_Rat 0 [.one (.agg cs)] = (0 + 1 ≤ cs.length, ofCells false ((cs.drop 0).take 1)) := rfl
@[go_sem] theorem rk_pl_api_Rat_0 : placeOf ⟨N, TT, fn, fz⟩ flds_api_Rat 0 = some (0, 1) := rfl
@[go_sem] theorem rk_fa_api_Rat_1 : fieldAddrAV ⟨N, TT, fn, fz⟩ desc_api_Rat 1 [.one (.cel (.ptr id off))] = (True, .one (.cel (.ptr id (off + 1)))) :=
  Prod.ext (eq_true (show 1 ≠ 0 by omega)) rfl
@[go_sem] theorem rk_fp_api_Rat_1 : fieldAddrAV ⟨N, TT, fn, fz⟩ desc_api_Rat 1 [.one (.cel (.pto cs))] = (1 ≤ cs.length, .one (.cel (.pto (cs.drop 1)))) :=
  Prod.ext (propext ⟨fun h => h.2, fun h => ⟨show 1 ≠ 0 by omega, h⟩⟩) rfl
@[go_sem] theorem rk_f_api_Rat_1 : fieldAV ⟨N, TT, fn, fz⟩ desc_api_Rat 1 [.one (.agg cs)] = (1 + 1 ≤ cs.length, ofCells false ((cs.drop 1).take 1)) := rfl
@[go_sem] theorem rk_pl_api_Rat_1 : placeOf ⟨N, TT, fn, fz⟩ flds_api_Rat 1 = some (1, 1) := rfl
@[go_sem] theorem rk_fa_api_Rat_2 : fieldAddrAV ⟨N, TT, fn, fz⟩ desc_api_Rat 2 [.one (.cel (.ptr id off))] = (True, .one (.cel (.ptr id (off + 2)))) :=
  Prod.ext (eq_true (show 1 ≠ 0 by omega)) rfl
@[go_sem] theorem rk_fp_api_Rat_2 : fieldAddrAV ⟨N, TT, fn, fz⟩ desc_api_Rat 2 [.one (.cel (.pto cs))] = (2 ≤ cs.length, .one (.cel (.pto (cs.drop 2)))) :=
  Prod.ext (propext ⟨fun h => h.2, fun h => ⟨show 1 ≠ 0 by omega, h⟩⟩) rfl
@[go_sem] theorem rk_f_api_Rat_2 : fieldAV ⟨N, TT, fn, fz⟩ desc_api_Rat 2 [.one (.agg cs)] = (2 + 1 ≤ cs.length, ofCells false ((cs.drop 2).take 1)) := rfl
@[go_sem] theorem rk_pl_api_Rat_2 : placeOf ⟨N, TT, fn, fz⟩ flds_api_Rat 2 = some (2, 1) := rfl
@[go_sem] theorem rk_tt_api_Ball : Env.tt ⟨N, TT, fn, fz⟩ 28 = some ti_api_Ball := rfl
@[go_sem] theorem rk_desc_api_Ball : Env.desc ⟨N, TT, fn, fz⟩ 28 = desc_api_Ball := rfl
@[go_sem] theorem rk_sz_api_Ball : Env.sz ⟨N, TT, fn, fz⟩ 28 = 6 := rfl
@[go_sem] theorem rk_nl_api_Ball {x : Operand} : needsOf ⟨N, TT, fn, fz⟩ (.load 28 x) [.one (.cel (.ptr id off))] = [(id, off + 1), (id, off + 2), (id, off + 3), (id, off + 4), (id, off + 5), (id, off + 6)] := rfl
@[go_sem] theorem rk_ns_api_Ball {x y : Operand} {v : AV} : needsOf ⟨N, TT, fn, fz⟩ (.store 28 x y) [.one (.cel (.ptr id off)), v] = [(id, off + 1), (id, off + 2), (id, off + 3), (id, off + 4), (id, off + 5), (id, off + 6)] := rfl
@[go_sem] theorem rk_np_api_Ball {x : Operand} : needsOf ⟨N, TT, fn, fz⟩ (.load 28 x) [.one (.cel (.pto cs))] = [] := rfl
@[go_sem] theorem rk_load_api_Ball {c0 c1 c2 c3 c4 c5 : CV} : loadAV (some ti_api_Ball) [.one (.cel (.ptr id off))] [some (.cv c0), some (.cv c1), some (.cv c2), some (.cv c3), some (.cv c4), some (.cv c5)] = (True, .one (.agg [c0, c1, c2, c3, c4, c5])) := rfl
@[go_sem] theorem rk_lpto_api_Ball {c0 c1 c2 c3 c4 c5 : CV} : loadAV (some ti_api_Ball) [.one (.cel (.pto (c0 :: c1 :: c2 :: c3 :: c4 :: c5 :: cs)))] [] = (True, .one (.agg [c0.strip, c1.strip, c2.strip, c3.strip, c4.strip, c5.strip])) := by
  simp [loadAV, ti_api_Ball, ofCells]
@[go_sem] theorem rk_z_api_Ball : ti_api_Ball.z1 = z_api_Ball := rfl
@[go_sem] theorem rk_agg_api_Ball : ti_api_Ball.agg = true := rfl
@[go_sem] theorem rk_size_api_Ball : ti_api_Ball.size = 6 := rfl
@[go_sem] theorem rk_d_api_Ball : ti_api_Ball.desc = .struct flds_api_Ball := rfl
@[go_sem] theorem rk_all2_api_Ball : (flds_api_Ball.all fun f => (TT f.type).isSome) = true := by simp [flds_api_Ball, TT, ttOf]
@[go_sem] theorem rk_all_api_Ball : (flds_api_Ball.all fun f => (Env.tt ⟨N, TT, fn, fz⟩ f.type).isSome) = true := by simp [flds_api_Ball, TT, ttOf]
@[go_sem] theorem rk_fa_api_Ball_0 : fieldAddrAV ⟨N, TT, fn, fz⟩ desc_api_Ball 0 [.one (.cel (.ptr id off))] = (True, .one (.cel (.ptr id (off + 0)))) :=
  Prod.ext (eq_true (show 3 ≠ 0 by omega)) rfl
@[go_sem] theorem rk_fp_api_Ball_0 : fieldAddrAV ⟨N, TT, fn, fz⟩ desc_api_Ball 0 [.one (.cel (.pto cs))] = (0 ≤ cs.length, .one (.cel (.pto (cs.drop 0)))) :=
  Prod.ext (propext ⟨fun h => h.2, fun h => ⟨show 3 ≠ 0 by omega, h⟩⟩) rfl
@[go_sem] theorem rk_f_api_Ball_0 : fieldAV ⟨N, TT, fn, fz⟩ desc_api_Ball 0 [.one (.agg cs)] = (0 + 3 ≤ cs.length, ofCells true ((cs.drop 0).take 3)) := rfl
@[go_sem] theorem rk_pl_api_Ball_0 : placeOf ⟨N, TT, fn, fz⟩ flds_api_Ball 0 = some (0, 3) := rfl
@[go_sem] theorem rk_fa_api_Ball_1 : fieldAddrAV ⟨N, TT, fn, fz⟩ desc_api_Ball 1 [.one (.cel (.ptr id off))] = (True, .one (.cel (.ptr id (off + 3)))) :=
  Prod.ext (eq_true (show 3 ≠ 0 by omega)) rfl
@[go_sem] theorem rk_fp_api_Ball_1 : fieldAddrAV ⟨N, TT, fn, fz⟩ desc_api_Ball 1 [.one (.cel (.pto cs))] = (3 ≤ cs.length, .one (.cel (.pto (cs.drop 3)))) :=
  Prod.ext (propext ⟨fun h => h.2, fun h => ⟨show 3 ≠ 0 by omega, h⟩⟩) rfl
@[go_sem] theorem rk_f_api_Ball_1 : fieldAV ⟨N, TT, fn, fz⟩ desc_api_Ball 1 [.one (.agg cs)] = (3 + 3 ≤ cs.length, ofCells true ((cs.drop 3).take 3)) := rfl
@[go_sem] theorem rk_pl_api_Ball_1 : placeOf ⟨N, TT, fn, fz⟩ flds_api_Ball 1 = some (3, 3) := rfl
@[go_sem] theorem rk_tt___api_Rat : Env.tt ⟨N, TT, fn, fz⟩ 189 = some ti___api_Rat := rfl
@[go_sem] theorem rk_desc___api_Rat : Env.desc ⟨N, TT, fn, fz⟩ 189 = desc___api_Rat := rfl
@[go_sem] theorem rk_sz___api_Rat : Env.sz ⟨N, TT, fn, fz⟩ 189 = 1 := rfl
@[go_sem] theorem rk_nl___api_Rat {x : Operand} : needsOf ⟨N, TT, fn, fz⟩ (.load 189 x) [.one (.cel (.ptr id off))] = [(id, off + 1)] := rfl
@[go_sem] theorem rk_ns___api_Rat {x y : Operand} {v : AV} : needsOf ⟨N, TT, fn, fz⟩ (.store 189 x y) [.one (.cel (.ptr id off)), v] = [(id, off + 1)] := rfl
@[go_sem] theorem rk_np___api_Rat {x : Operand} : needsOf ⟨N, TT, fn, fz⟩ (.load 189 x) [.one (.cel (.pto cs))] = [] := rfl
@[go_sem] theorem rk_load___api_Rat {c0 : CV} : loadAV (some ti___api_Rat) [.one (.cel (.ptr id off))] [some (.cv c0)] = (True, .one (.cel c0)) := rfl
@[go_sem] theorem rk_lpto___api_Rat {c0 : CV} : loadAV (some ti___api_Rat) [.one (.cel (.pto (c0 :: cs)))] [] = (True, .one (.cel c0.strip)) := by
  simp [loadAV, ti___api_Rat, ofCells]
@[go_sem] theorem rk_di___api_Rat : ti___api_Rat.desc = desc___api_Rat := rfl
@[go_sem] theorem rk_z___api_Rat : ti___api_Rat.z1 = z___api_Rat := rfl
@[go_sem] theorem rk_agg___api_Rat : ti___api_Rat.agg = false := rfl
@[go_sem] theorem rk_size___api_Rat : ti___api_Rat.size = 1 := rfl
@[go_sem] theorem rk_tt_api_Errno : Env.tt ⟨N, TT, fn, fz⟩ 29 = some ti_api_Errno := rfl
@[go_sem] theorem rk_desc_api_Errno : Env.desc ⟨N, TT, fn, fz⟩ 29 = desc_api_Errno := rfl
@[go_sem] theorem rk_sz_api_Errno : Env.sz ⟨N, TT, fn, fz⟩ 29 = 1 := rfl
@[go_sem] theorem rk_nl_api_Errno {x : Operand} : needsOf ⟨N, TT, fn, fz⟩ (.load 29 x) [.one (.cel (.ptr id off))] = [(id, off + 1)] := rfl
@[go_sem] theorem rk_ns_api_Errno {x y : Operand} {v : AV} : needsOf ⟨N, TT, fn, fz⟩ (.store 29 x y) [.one (.cel (.ptr id off)), v] = [(id, off + 1)] := rfl
@[go_sem] theorem rk_np_api_Errno {x : Operand} : needsOf ⟨N, TT, fn, fz⟩ (.load 29 x) [.one (.cel (.pto cs))] = [] := rfl
@[go_sem] theorem rk_load_api_Errno {c0 : CV} : loadAV (some ti_api_Errno) [.one (.cel (.ptr id off))] [some (.cv c0)] = (True, .one (.cel c0)) := rfl
@[go_sem] theorem rk_lpto_api_Errno {c0 : CV} : loadAV (some ti_api_Errno) [.one (.cel (.pto (c0 :: cs)))] [] = (True, .one (.cel c0.strip)) := by
  simp [loadAV, ti_api_Errno, ofCells]
@[go_sem] theorem rk_di_api_Errno : ti_api_Errno.desc = desc_api_Errno := rfl
@[go_sem] theorem rk_z_api_Errno : ti_api_Errno.z1 = z_api_Errno := rfl
@[go_sem] theorem rk_agg_api_Errno : ti_api_Errno.agg = false := rfl
@[go_sem] theorem rk_size_api_Errno : ti_api_Errno.size = 1 := rfl
@[go_sem] theorem rk_tt_____uint32 : Env.tt ⟨N, TT, fn, fz⟩ 51 = some ti_____uint32 := rfl
@[go_sem] theorem rk_desc_____uint32 : Env.desc ⟨N, TT, fn, fz⟩ 51 = desc_____uint32 := rfl
@[go_sem] theorem rk_sz_____uint32 : Env.sz ⟨N, TT, fn, fz⟩ 51 = 1 := rfl
@[go_sem] theorem rk_nl_____uint32 {x : Operand} : needsOf ⟨N, TT, fn, fz⟩ (.load 51 x) [.one (.cel (.ptr id off))] = [(id, off + 1)] := rfl
@[go_sem] theorem rk_ns_____uint32 {x y : Operand} {v : AV} : needsOf ⟨N, TT, fn, fz⟩ (.store 51 x y) [.one (.cel (.ptr id off)), v] = [(id, off + 1)] := rfl
@[go_sem] theorem rk_np_____uint32 {x : Operand} : needsOf ⟨N, TT, fn, fz⟩ (.load 51 x) [.one (.cel (.pto cs))] = [] := rfl
@[go_sem] theorem rk_load_____uint32 {c0 : CV} : loadAV (some ti_____uint32) [.one (.cel (.ptr id off))] [some (.cv c0)] = (True, .one (.cel c0)) := rfl
@[go_sem] theorem rk_lpto_____uint32 {c0 : CV} : loadAV (some ti_____uint32) [.one (.cel (.pto (c0 :: cs)))] [] = (True, .one (.cel c0.strip)) := by
  simp [loadAV, ti_____uint32, ofCells]
@[go_sem] theorem rk_di_____uint32 : ti_____uint32.desc = desc_____uint32 := rfl
@[go_sem] theorem rk_z_____uint32 : ti_____uint32.z1 = z_____uint32 := rfl
@[go_sem] theorem rk_agg_____uint32 : ti_____uint32.agg = false := rfl
@[go_sem] theorem rk_size_____uint32 : ti_____uint32.size = 1 := rfl
@[go_sem] theorem rk_tt_____api_Rat : Env.tt ⟨N, TT, fn, fz⟩ 206 = some ti_____api_Rat := rfl
@[go_sem] theorem rk_desc_____api_Rat : Env.desc ⟨N, TT, fn, fz⟩ 206 = desc_____api_Rat := rfl
@[go_sem] theorem rk_sz_____api_Rat : Env.sz ⟨N, TT, fn, fz⟩ 206 = 1 := rfl
@[go_sem] theorem rk_nl_____api_Rat {x : Operand} : needsOf ⟨N, TT, fn, fz⟩ (.load 206 x) [.one (.cel (.ptr id off))] = [(id, off + 1)] := rfl
@[go_sem] theorem rk_ns_____api_Rat {x y : Operand} {v : AV} : needsOf ⟨N, TT, fn, fz⟩ (.store 206 x y) [.one (.cel (.ptr id off)), v] = [(id, off + 1)] := rfl
@[go_sem] theorem rk_np_____api_Rat {x : Operand} : needsOf ⟨N, TT, fn, fz⟩ (.load 206 x) [.one (.cel (.pto cs))] = [] := rfl
@[go_sem] theorem rk_load_____api_Rat {c0 : CV} : loadAV (some ti_____api_Rat) [.one (.cel (.ptr id off))] [some (.cv c0)] = (True, .one (.cel c0)) := rfl
@[go_sem] theorem rk_lpto_____api_Rat {c0 : CV} : loadAV (some ti_____api_Rat) [.one (.cel (.pto (c0 :: cs)))] [] = (True, .one (.cel c0.strip)) := by
  simp [loadAV, ti_____api_Rat, ofCells]
@[go_sem] theorem rk_di_____api_Rat : ti_____api_Rat.desc = desc_____api_Rat := rfl
@[go_sem] theorem rk_z_____api_Rat : ti_____api_Rat.z1 = z_____api_Rat := rfl
@[go_sem] theorem rk_agg_____api_Rat : ti_____api_Rat.agg = false := rfl
@[go_sem] theorem rk_size_____api_Rat : ti_____api_Rat.size = 1 := rfl
@[go_sem] theorem rk_tt_fix_Span : Env.tt ⟨N, TT, fn, fz⟩ 115 = some ti_fix_Span := rfl
@[go_sem] theorem rk_desc_fix_Span : Env.desc ⟨N, TT, fn, fz⟩ 115 = desc_fix_Span := rfl
@[go_sem] theorem rk_sz_fix_Span : Env.sz ⟨N, TT, fn, fz⟩ 115 = 2 := rfl
@[go_sem] theorem rk_nl_fix_Span {x : Operand} : needsOf ⟨N, TT, fn, fz⟩ (.load 115 x) [.one (.cel (.ptr id off))] = [(id, off + 1), (id, off + 2)] := rfl
@[go_sem] theorem rk_ns_fix_Span {x y : Operand} {v : AV} : needsOf ⟨N, TT, fn, fz⟩ (.store 115 x y) [.one (.cel (.ptr id off)), v] = [(id, off + 1), (id, off + 2)] := rfl
@[go_sem] theorem rk_np_fix_Span {x : Operand} : needsOf ⟨N, TT, fn, fz⟩ (.load 115 x) [.one (.cel (.pto cs))] = [] := rfl
@[go_sem] theorem rk_load_fix_Span {c0 c1 : CV} : loadAV (some ti_fix_Span) [.one (.cel (.ptr id off))] [some (.cv c0), some (.cv c1)] = (True, .one (.agg [c0, c1])) := rfl
@[go_sem] theorem rk_lpto_fix_Span {c0 c1 : CV} : loadAV (some ti_fix_Span) [.one (.cel (.pto (c0 :: c1 :: cs)))] [] = (True, .one (.agg [c0.strip, c1.strip])) := by
  simp [loadAV, ti_fix_Span, ofCells]
@[go_sem] theorem rk_z_fix_Span : ti_fix_Span.z1 = z_fix_Span := rfl
@[go_sem] theorem rk_agg_fix_Span : ti_fix_Span.agg = true := rfl
@[go_sem] theorem rk_size_fix_Span : ti_fix_Span.size = 2 := rfl
@[go_sem] theorem rk_d_fix_Span : ti_fix_Span.desc = .struct flds_fix_Span := rfl
@[go_sem] theorem rk_all2_fix_Span : (flds_fix_Span.all fun f => (TT f.type).isSome) = true := by simp [flds_fix_Span, TT, ttOf]
@[go_sem] theorem rk_all_fix_Span : (flds_fix_Span.all fun f => (Env.tt ⟨N, TT, fn, fz⟩ f.type).isSome) = true := by simp [flds_fix_Span, TT, ttOf]
@[go_sem] theorem rk_fa_fix_Span_0 : fieldAddrAV ⟨N, TT, fn, fz⟩ desc_fix_Span 0 [.one (.cel (.ptr id off))] = (True, .one (.cel (.ptr id (off + 0)))) :=
  Prod.ext (eq_true (show 1 ≠ 0 by omega)) rfl
@[go_sem] theorem rk_fp_fix_Span_0 : fieldAddrAV ⟨N, TT, fn, fz⟩ desc_fix_Span 0 [.one (.cel (.pto cs))] = (0 ≤ cs.length, .one (.cel (.pto (cs.drop 0)))) :=
  Prod.ext (propext ⟨fun h => h.2, fun h => ⟨show 1 ≠ 0 by omega, h⟩⟩) rfl
@[go_sem] theorem rk_f_fix_Span_0 : fieldAV ⟨N, TT, fn, fz⟩ desc_fix_Span 0 [.one (.agg cs)] = (0 + 1 ≤ cs.length, ofCells false ((cs.drop 0).take 1)) := rfl
@[go_sem] theorem rk_pl_fix_Span_0 : placeOf ⟨N, TT, fn, fz⟩ flds_fix_Span 0 = some (0, 1) := rfl
@[go_sem] theorem rk_fa_fix_Span_1 : fieldAddrAV ⟨N, TT, fn, fz⟩ desc_fix_Span 1 [.one (.cel (.ptr id off))] = (True, .one (.cel (.ptr id (off + 1)))) :=
  Prod.ext (eq_true (show 1 ≠ 0 by omega)) rfl
@[go_sem] theorem rk_fp_fix_Span_1 : fieldAddrAV ⟨N, TT, fn, fz⟩ desc_fix_Span 1 [.one (.cel (.pto cs))] = (1 ≤ cs.length, .one (.cel (.pto (cs.drop 1)))) :=
  Prod.ext (propext ⟨fun h => h.2, fun h => ⟨show 1 ≠ 0 by omega, h⟩⟩) rfl
@[go_sem] theorem rk_f_fix_Span_1 : fieldAV ⟨N, TT, fn, fz⟩ desc_fix_Span 1 [.one (.agg cs)] = (1 + 1 ≤ cs.length, ofCells false ((cs.drop 1).take 1)) := rfl
@[go_sem] theorem rk_pl_fix_Span_1 : placeOf ⟨N, TT, fn, fz⟩ flds_fix_Span 1 = some (1, 1) := rfl
@[go_sem] theorem rk_tt___fix_Span : Env.tt ⟨N, TT, fn, fz⟩ 166 = some ti___fix_Span := rfl
@[go_sem] theorem rk_desc___fix_Span : Env.desc ⟨N, TT, fn, fz⟩ 166 = desc___fix_Span := rfl
@[go_sem] theorem rk_sz___fix_Span : Env.sz ⟨N, TT, fn, fz⟩ 166 = 1 := rfl
@[go_sem] theorem rk_nl___fix_Span {x : Operand} : needsOf ⟨N, TT, fn, fz⟩ (.load 166 x) [.one (.cel (.ptr id off))] = [(id, off + 1)] := rfl
@[go_sem] theorem rk_ns___fix_Span {x y : Operand} {v : AV} : needsOf ⟨N, TT, fn, fz⟩ (.store 166 x y) [.one (.cel (.ptr id off)), v] = [(id, off + 1)] := rfl
@[go_sem] theorem rk_np___fix_Span {x : Operand} : needsOf ⟨N, TT, fn, fz⟩ (.load 166 x) [.one (.cel (.pto cs))] = [] := rfl
@[go_sem] theorem rk_load___fix_Span {c0 : CV} : loadAV (some ti___fix_Span) [.one (.cel (.ptr id off))] [some (.cv c0)] = (True, .one (.cel c0)) := rfl
@[go_sem] theorem rk_lpto___fix_Span {c0 : CV} : loadAV (some ti___fix_Span) [.one (.cel (.pto (c0 :: cs)))] [] = (True, .one (.cel c0.strip)) := by
  simp [loadAV, ti___fix_Span, ofCells]
@[go_sem] theorem rk_di___fix_Span : ti___fix_Span.desc = desc___fix_Span := rfl
@[go_sem] theorem rk_z___fix_Span : ti___fix_Span.z1 = z___fix_Span := rfl
@[go_sem] theorem rk_agg___fix_Span : ti___fix_Span.agg = false := rfl
@[go_sem] theorem rk_size___fix_Span : ti___fix_Span.size = 1 := rfl
@[go_sem] theorem rk_tt_string : Env.tt ⟨N, TT, fn, fz⟩ 9 = some ti_string := rfl
@[go_sem] theorem rk_desc_string : Env.desc ⟨N, TT, fn, fz⟩ 9 = desc_string := rfl
@[go_sem] theorem rk_sz_string : Env.sz ⟨N, TT, fn, fz⟩ 9 = 1 := rfl
@[go_sem] theorem rk_nl_string {x : Operand} : needsOf ⟨N, TT, fn, fz⟩ (.load 9 x) [.one (.cel (.ptr id off))] = [(id, off + 1)] := rfl
@[go_sem] theorem rk_ns_string {x y : Operand} {v : AV} : needsOf ⟨N, TT, fn, fz⟩ (.store 9 x y) [.one (.cel (.ptr id off)), v] = [(id, off + 1)] := rfl
@[go_sem] theorem rk_np_string {x : Operand} : needsOf ⟨N, TT, fn, fz⟩ (.load 9 x) [.one (.cel (.pto cs))] = [] := rfl
@[go_sem] theorem rk_load_string {c0 : CV} : loadAV (some ti_string) [.one (.cel (.ptr id off))] [some (.cv c0)] = (True, .one (.cel c0)) := rfl
@[go_sem] theorem rk_lpto_string {c0 : CV} : loadAV (some ti_string) [.one (.cel (.pto (c0 :: cs)))] [] = (True, .one (.cel c0.strip)) := by
  simp [loadAV, ti_string, ofCells]
@[go_sem] theorem rk_di_string : ti_string.desc = desc_string := rfl
@[go_sem] theorem rk_z_string : ti_string.z1 = z_string := rfl
@[go_sem] theorem rk_agg_string : ti_string.agg = false := rfl
@[go_sem] theorem rk_size_string : ti_string.size = 1 := rfl
@[go_sem] theorem rk_tt_uint8 : Env.tt ⟨N, TT, fn, fz⟩ 5 = some ti_uint8 := rfl
@[go_sem] theorem rk_desc_uint8 : Env.desc ⟨N, TT, fn, fz⟩ 5 = desc_uint8 := rfl
@[go_sem] theorem rk_sz_uint8 : Env.sz ⟨N, TT, fn, fz⟩ 5 = 1 := rfl
@[go_sem] theorem rk_nl_uint8 {x : Operand} : needsOf ⟨N, TT, fn, fz⟩ (.load 5 x) [.one (.cel (.ptr id off))] = [(id, off + 1)] := rfl
@[go_sem] theorem rk_ns_uint8 {x y : Operand} {v : AV} : needsOf ⟨N, TT, fn, fz⟩ (.store 5 x y) [.one (.cel (.ptr id off)), v] = [(id, off + 1)] := rfl
@[go_sem] theorem rk_np_uint8 {x : Operand} : needsOf ⟨N, TT, fn, fz⟩ (.load 5 x) [.one (.cel (.pto cs))] = [] := rfl
@[go_sem] theorem rk_load_uint8 {c0 : CV} : loadAV (some ti_uint8) [.one (.cel (.ptr id off))] [some (.cv c0)] = (True, .one (.cel c0)) := rfl
@[go_sem] theorem rk_lpto_uint8 {c0 : CV} : loadAV (some ti_uint8) [.one (.cel (.pto (c0 :: cs)))] [] = (True, .one (.cel c0.strip)) := by
  simp [loadAV, ti_uint8, ofCells]
@[go_sem] theorem rk_di_uint8 : ti_uint8.desc = desc_uint8 := rfl
@[go_sem] theorem rk_z_uint8 : ti_uint8.z1 = z_uint8 := rfl
@[go_sem] theorem rk_agg_uint8 : ti_uint8.agg = false := rfl
@[go_sem] theorem rk_size_uint8 : ti_uint8.size = 1 := rfl
@[go_sem] theorem rk_tt___uint8 : Env.tt ⟨N, TT, fn, fz⟩ 95 = some ti___uint8 := rfl
@[go_sem] theorem rk_desc___uint8 : Env.desc ⟨N, TT, fn, fz⟩ 95 = desc___uint8 := rfl
@[go_sem] theorem rk_sz___uint8 : Env.sz ⟨N, TT, fn, fz⟩ 95 = 1 := rfl
@[go_sem] theorem rk_nl___uint8 {x : Operand} : needsOf ⟨N, TT, fn, fz⟩ (.load 95 x) [.one (.cel (.ptr id off))] = [(id, off + 1)] := rfl
@[go_sem] theorem rk_ns___uint8 {x y : Operand} {v : AV} : needsOf ⟨N, TT, fn, fz⟩ (.store 95 x y) [.one (.cel (.ptr id off)), v] = [(id, off + 1)] := rfl
@[go_sem] theorem rk_np___uint8 {x : Operand} : needsOf ⟨N, TT, fn, fz⟩ (.load 95 x) [.one (.cel (.pto cs))] = [] := rfl
@[go_sem] theorem rk_load___uint8 {c0 : CV} : loadAV (some ti___uint8) [.one (.cel (.ptr id off))] [some (.cv c0)] = (True, .one (.cel c0)) := rfl
@[go_sem] theorem rk_lpto___uint8 {c0 : CV} : loadAV (some ti___uint8) [.one (.cel (.pto (c0 :: cs)))] [] = (True, .one (.cel c0.strip)) := by
  simp [loadAV, ti___uint8, ofCells]
@[go_sem] theorem rk_di___uint8 : ti___uint8.desc = desc___uint8 := rfl
@[go_sem] theorem rk_z___uint8 : ti___uint8.z1 = z___uint8 := rfl
@[go_sem] theorem rk_agg___uint8 : ti___uint8.agg = false := rfl
@[go_sem] theorem rk_size___uint8 : ti___uint8.size = 1 := rfl
@[go_sem] theorem rk_tt_api_Dist : Env.tt ⟨N, TT, fn, fz⟩ 33 = some ti_api_Dist := rfl
@[go_sem] theorem rk_desc_api_Dist : Env.desc ⟨N, TT, fn, fz⟩ 33 = desc_api_Dist := rfl
@[go_sem] theorem rk_sz_api_Dist : Env.sz ⟨N, TT, fn, fz⟩ 33 = 9 := rfl
@[go_sem] theorem rk_nl_api_Dist {x : Operand} : needsOf ⟨N, TT, fn, fz⟩ (.load 33 x) [.one (.cel (.ptr id off))] = [(id, off + 1), (id, off + 2), (id, off + 3), (id, off + 4), (id, off + 5), (id, off + 6), (id, off + 7), (id, off + 8), (id, off + 9)] := rfl
@[go_sem] theorem rk_ns_api_Dist {x y : Operand} {v : AV} : needsOf ⟨N, TT, fn, fz⟩ (.store 33 x y) [.one (.cel (.ptr id off)), v] = [(id, off + 1), (id, off + 2), (id, off + 3), (id, off + 4), (id, off + 5), (id, off + 6), (id, off + 7), (id, off + 8), (id, off + 9)] := rfl
@[go_sem] theorem rk_np_api_Dist {x : Operand} : needsOf ⟨N, TT, fn, fz⟩ (.load 33 x) [.one (.cel (.pto cs))] = [] := rfl
@[go_sem] theorem rk_load_api_Dist {c0 c1 c2 c3 c4 c5 c6 c7 c8 : CV} : loadAV (some ti_api_Dist) [.one (.cel (.ptr id off))] [some (.cv c0), some (.cv c1), some (.cv c2), some (.cv c3), some (.cv c4), some (.cv c5), some (.cv c6), some (.cv c7), some (.cv c8)] = (True, .one (.agg [c0, c1, c2, c3, c4, c5, c6, c7, c8])) := rfl
@[go_sem] theorem rk_lpto_api_Dist {c0 c1 c2 c3 c4 c5 c6 c7 c8 : CV} : loadAV (some ti_api_Dist) [.one (.cel (.pto (c0 :: c1 :: c2 :: c3 :: c4 :: c5 :: c6 :: c7 :: c8 :: cs)))] [] = (True, .one (.agg [c0.strip, c1.strip, c2.strip, c3.strip, c4.strip, c5.strip, c6.strip, c7.strip, c8.strip])) := by
  simp [loadAV, ti_api_Dist, ofCells]
@[go_sem] theorem rk_z_api_Dist : ti_api_Dist.z1 = z_api_Dist := rfl
@[go_sem] theorem rk_agg_api_Dist : ti_api_Dist.agg = true := rfl
@[go_sem] theorem rk_size_api_Dist : ti_api_Dist.size = 9 := rfl
@[go_sem] theorem rk_d_api_Dist : ti_api_Dist.desc = .struct flds_api_Dist := rfl
@[go_sem] theorem rk_all2_api_Dist : (flds_api_Dist.all fun f => (TT f.type).isSome) = true := by simp [flds_api_Dist, TT, ttOf]
@[go_sem] theorem rk_all_api_Dist : (flds_api_Dist.all fun f => (Env.tt ⟨N, TT, fn, fz⟩ f.type).isSome) = true := by simp [flds_api_Dist, TT, ttOf]
@[go_sem] theorem rk_fa_api_Dist_0 : fieldAddrAV ⟨N, TT, fn, fz⟩ desc_api_Dist 0 [.one (.cel (.ptr id off))] = (True, .one (.cel (.ptr id (off + 0)))) :=
  Prod.ext (eq_true (show 1 ≠ 0 by omega)) rfl
@[go_sem] theorem rk_fp_api_Dist_0 : fieldAddrAV ⟨N, TT, fn, fz⟩ desc_api_Dist 0 [.one (.cel (.pto cs))] = (0 ≤ cs.length, .one (.cel (.pto (cs.drop 0)))) :=
  Prod.ext (propext ⟨fun h => h.2, fun h => ⟨show 1 ≠ 0 by omega, h⟩⟩) rfl
@[go_sem] theorem rk_f_api_Dist_0 : fieldAV ⟨N, TT, fn, fz⟩ desc_api_Dist 0 [.one (.agg cs)] = (0 + 1 ≤ cs.length, ofCells false ((cs.drop 0).take 1)) := rfl
@[go_sem] theorem rk_pl_api_Dist_0 : placeOf ⟨N, TT, fn, fz⟩ flds_api_Dist 0 = some (0, 1) := rfl
@[go_sem] theorem rk_fa_api_Dist_1 : fieldAddrAV ⟨N, TT, fn, fz⟩ desc_api_Dist 1 [.one (.cel (.ptr id off))] = (True, .one (.cel (.ptr id (off + 1)))) :=
  Prod.ext (eq_true (show 1 ≠ 0 by omega)) rfl
@[go_sem] theorem rk_fp_api_Dist_1 : fieldAddrAV ⟨N, TT, fn, fz⟩ desc_api_Dist 1 [.one (.cel (.pto cs))] = (1 ≤ cs.length, .one (.cel (.pto (cs.drop 1)))) :=
  Prod.ext (propext ⟨fun h => h.2, fun h => ⟨show 1 ≠ 0 by omega, h⟩⟩) rfl
@[go_sem] theorem rk_f_api_Dist_1 : fieldAV ⟨N, TT, fn, fz⟩ desc_api_Dist 1 [.one (.agg cs)] = (1 + 1 ≤ cs.length, ofCells false ((cs.drop 1).take 1)) := rfl
@[go_sem] theorem rk_pl_api_Dist_1 : placeOf ⟨N, TT, fn, fz⟩ flds_api_Dist 1 = some (1, 1) := rfl
@[go_sem] theorem rk_fa_api_Dist_2 : fieldAddrAV ⟨N, TT, fn, fz⟩ desc_api_Dist 2 [.one (.cel (.ptr id off))] = (True, .one (.cel (.ptr id (off + 2)))) :=
  Prod.ext (eq_true (show 1 ≠ 0 by omega)) rfl
@[go_sem] theorem rk_fp_api_Dist_2 : fieldAddrAV ⟨N, TT, fn, fz⟩ desc_api_Dist 2 [.one (.cel (.pto cs))] = (2 ≤ cs.length, .one (.cel (.pto (cs.drop 2)))) :=
  Prod.ext (propext ⟨fun h => h.2, fun h => ⟨show 1 ≠ 0 by omega, h⟩⟩) rfl
@[go_sem] theorem rk_f_api_Dist_2 : fieldAV ⟨N, TT, fn, fz⟩ desc_api_Dist 2 [.one (.agg cs)] = (2 + 1 ≤ cs.length, ofCells false ((cs.drop 2).take 1)) := rfl
@[go_sem] theorem rk_pl_api_Dist_2 : placeOf ⟨N, TT, fn, fz⟩ flds_api_Dist 2 = some (2, 1) := rfl
@[go_sem] theorem rk_fa_api_Dist_3 : fieldAddrAV ⟨N, TT, fn, fz⟩ desc_api_Dist 3 [.one (.cel (.ptr id off))] = (True, .one (.cel (.ptr id (off + 3)))) :=
  Prod.ext (eq_true (show 3 ≠ 0 by omega)) rfl
@[go_sem] theorem rk_fp_api_Dist_3 : fieldAddrAV ⟨N, TT, fn, fz⟩ desc_api_Dist 3 [.one (.cel (.pto cs))] = (3 ≤ cs.length, .one (.cel (.pto (cs.drop 3)))) :=
  Prod.ext (propext ⟨fun h => h.2, fun h => ⟨show 3 ≠ 0 by omega, h⟩⟩) rfl
@[go_sem] theorem rk_f_api_Dist_3 : fieldAV ⟨N, TT, fn, fz⟩ desc_api_Dist 3 [.one (.agg cs)] = (3 + 3 ≤ cs.length, ofCells true ((cs.drop 3).take 3)) := rfl
@[go_sem] theorem rk_pl_api_Dist_3 : placeOf ⟨N, TT, fn, fz⟩ flds_api_Dist 3 = some (3, 3) := rfl
@[go_sem] theorem rk_fa_api_Dist_4 : fieldAddrAV ⟨N, TT, fn, fz⟩ desc_api_Dist 4 [.one (.cel (.ptr id off))] = (True, .one (.cel (.ptr id (off + 6)))) :=
  Prod.ext (eq_true (show 3 ≠ 0 by omega)) rfl
@[go_sem] theorem rk_fp_api_Dist_4 : fieldAddrAV ⟨N, TT, fn, fz⟩ desc_api_Dist 4 [.one (.cel (.pto cs))] = (6 ≤ cs.length, .one (.cel (.pto (cs.drop 6)))) :=
  Prod.ext (propext ⟨fun h => h.2, fun h => ⟨show 3 ≠ 0 by omega, h⟩⟩) rfl
@[go_sem] theorem rk_f_api_Dist_4 : fieldAV ⟨N, TT, fn, fz⟩ desc_api_Dist 4 [.one (.agg cs)] = (6 + 3 ≤ cs.length, ofCells true ((cs.drop 6).take 3)) := rfl
@[go_sem] theorem rk_pl_api_Dist_4 : placeOf ⟨N, TT, fn, fz⟩ flds_api_Dist 4 = some (6, 3) := rfl
end
theorem mixed : Tryz.prog.follows .mixedOrders = true := by kernel_rfl
section
variable {P : Program} {f K : Nat}
/-- how a call of the function f begins -/
abbrev CallOk (P : Program) (f : Nat) : Prop := ∀ (args : Array Value) (w : World), (callFunc f args).run P w = .ok (.enter f args) w
theorem All2.args1 {x : AV} {avs : List AV} {X : Nat → Nat → Prop} {w : World} {vs : List Value} (hle : argsLe avs [x]) (h : All2 (fun a v => AV.P X w a v) avs vs) : ∃ v, vs = [v] ∧ x.P X w v := (hle X w vs h).one
theorem All2.args2 {x y : AV} {avs : List AV} {X : Nat → Nat → Prop} {w : World} {vs : List Value} (hle : argsLe avs [x, y]) (h : All2 (fun a v => AV.P X w a v) avs vs) : ∃ u v, vs = [u, v] ∧ x.P X w u ∧ y.P X w v := (hle X w vs h).two
theorem All2.args3 {x y z : AV} {avs : List AV} {X : Nat → Nat → Prop} {w : World} {vs : List Value} (hle : argsLe avs [x, y, z]) (h : All2 (fun a v => AV.P X w a v) avs vs) : ∃ u v t, vs = [u, v, t] ∧ x.P X w u ∧ y.P X w v ∧ z.P X w t := (hle X w vs h).three
/-- a contract of one argument, told -/
theorem told1 {α : Type} {A : Arg α} {pre : α → Prop} {r : α → AV} (hc : CallOk P f) (hflat : ∀ a, (r a).strip = r a)
    (h : ∀ a X w v, pre a → (∀ b o, X b o → b < w.heap.size) → (A.un a).P X w v → Calls P f #[v] w fun e w' => ∃ u, e = .returned u ∧ (r a).P X w' u ∧ Below w.heap.size w w') : Sound P f (den1 A pre r) := by
  refine ⟨hc, fun avs X w vs hd hX hvs => ?_, fun avs hd => ?_⟩
  · obtain ⟨a, h1, h2, e⟩ := den1_inv hd
    obtain ⟨v, rfl, hv⟩ := hvs.args1 h1
    rw [e]
    exact h a X w v h2 hX hv
  · obtain ⟨a, _, _, e⟩ := den1_inv hd; rw [e]; exact hflat a
theorem told2 {α β : Type} {A : Arg α} {B : Arg β} {pre : α → β → Prop} {r : α → β → AV} (hc : CallOk P f) (hflat : ∀ a b, (r a b).strip = r a b)
    (h : ∀ a b X w u v, pre a b → (∀ b o, X b o → b < w.heap.size) → (A.un a).P X w u → (B.un b).P X w v → Calls P f #[u, v] w fun e w' => ∃ u, e = .returned u ∧ (r a b).P X w' u ∧ Below w.heap.size w w') : Sound P f (den2 A B pre r) := by
  refine ⟨hc, fun avs X w vs hd hX hvs => ?_, fun avs hd => ?_⟩
  · obtain ⟨a, b, h1, h2, e⟩ := den2_inv hd
    obtain ⟨u, v, rfl, hu, hv⟩ := hvs.args2 h1
    rw [e]
    exact h a b X w u v h2 hX hu hv
  · obtain ⟨a, b, _, _, e⟩ := den2_inv hd; rw [e]; exact hflat a b
theorem told3 {α β γ : Type} {A : Arg α} {B : Arg β} {C : Arg γ} {pre : α → β → γ → Prop} {r : α → β → γ → AV} (hc : CallOk P f) (hflat : ∀ a b c, (r a b c).strip = r a b c)
    (h : ∀ a b c X w u v t, pre a b c → (∀ b o, X b o → b < w.heap.size) → (A.un a).P X w u → (B.un b).P X w v → (C.un c).P X w t → Calls P f #[u, v, t] w fun e w' => ∃ u, e = .returned u ∧ (r a b c).P X w' u ∧ Below w.heap.size w w') : Sound P f (den3 A B C pre r) := by
  refine ⟨hc, fun avs X w vs hd hX hvs => ?_, fun avs hd => ?_⟩
  · obtain ⟨a, b, c, h1, h2, e⟩ := den3_inv hd
    obtain ⟨u, v, t, rfl, hu, hv, ht⟩ := hvs.args3 h1
    rw [e]
    exact h a b c X w u v t h2 hX hu hv ht
  · obtain ⟨a, b, c, _, _, e⟩ := den3_inv hd; rw [e]; exact hflat a b c
theorem lim_nt {X : Nat → Nat → Prop} {w : World} {v : Value} {xs : List Nat} (h : (limV xs).P X w v) : Nt 0 w v xs := limG_nt (by simpa only [limV, AV.P, A1.P, CV.P] using h)
theorem nat_P {X : Nat → Nat → Prop} {w w' : World} {v : Value} {n : Nat} (h : Nt w.heap.size w' v (limbs n)) (hX : ∀ b o, X b o → b < w.heap.size) : (natV n).P X w' v := by
  have := nt_limG h hX
  simpa only [natV, limV, AV.P, A1.P, CV.P] using this
theorem retRat {X : Nat → Nat → Prop} {w : World} {args : Array Value} {q : Rat} (hX : ∀ b o, X b o → b < w.heap.size) (h : Calls P f args w (RetRat q w)) :
    Calls P f args w fun e w' => ∃ u, e = .returned u ∧ (ratV (cr q)).P X w' u ∧ Below w.heap.size w w' :=
  h.mono fun _ _ ⟨v, he, h1, h2⟩ => ⟨v, he, ratC_P h1 hX, h2⟩
theorem retNat {X : Nat → Nat → Prop} {w : World} {args : Array Value} {n : Nat} (hX : ∀ b o, X b o → b < w.heap.size) (h : Calls P f args w (RetNat n w)) :
    Calls P f args w fun e w' => ∃ u, e = .returned u ∧ (natV n).P X w' u ∧ Below w.heap.size w w' :=
  h.mono fun _ _ ⟨v, he, h1, h2⟩ => ⟨v, he, nat_P h1 hX, h2⟩
theorem retFlat {X : Nat → Nat → Prop} {w : World} {args : Array Value} {v : Value} {x : AV} (hx : ∀ w', x.P X w' v) (h : Calls P f args w fun e w' => e = .returned v ∧ Below w.heap.size w w') :
    Calls P f args w fun e w' => ∃ u, e = .returned u ∧ x.P X w' u ∧ Below w.heap.size w w' :=
  h.mono fun _ w' ⟨he, h2⟩ => ⟨v, he, hx w', h2⟩
def ratOkV (r : RR) (b : Bool) : AV := .tup [.agg (ratCells r), .cel (.bool b)]
def natOkV (n : Nat) (b : Bool) : AV := .tup [.cel (.lim none (limbs n)), .cel (.bool b)]
def divV (m n : Nat) : AV := .tup [.cel (.lim none (limbs (m / n))), .cel (.lim none (limbs (if n = 0 then 0 else m % n))), .cel (.bool (decide (n ≠ 0)))]
theorem retRatOk {X : Nat → Nat → Prop} {w : World} {args : Array Value} {q : Rat} {b : Bool} (hX : ∀ b o, X b o → b < w.heap.size) (h : Calls P f args w (RetRatOk q b w)) :
    Calls P f args w fun e w' => ∃ u, e = .returned u ∧ (ratOkV (cr q) b).P X w' u ∧ Below w.heap.size w w' :=
  h.mono fun _ _ ⟨v, he, h1, h2⟩ => ⟨_, he, ⟨[v, .bool b], rfl, .cons (ratC_P h1 hX) (.cons rfl .nil)⟩, h2⟩
theorem retNatOk {X : Nat → Nat → Prop} {w : World} {args : Array Value} {n : Nat} {b : Bool} (hX : ∀ b o, X b o → b < w.heap.size) (h : Calls P f args w (RetNatOk n b w)) :
    Calls P f args w fun e w' => ∃ u, e = .returned u ∧ (natOkV n b).P X w' u ∧ Below w.heap.size w w' :=
  h.mono fun _ _ ⟨v, he, h1, h2⟩ => ⟨_, he, ⟨[v, .bool b], rfl, .cons (nat_P h1 hX) (.cons rfl .nil)⟩, h2⟩
theorem retDiv {X : Nat → Nat → Prop} {w : World} {args : Array Value} {m n : Nat} (hX : ∀ b o, X b o → b < w.heap.size) (h : Calls P f args w (RetDivMod m n w)) :
    Calls P f args w fun e w' => ∃ u, e = .returned u ∧ (divV m n).P X w' u ∧ Below w.heap.size w w' :=
  h.mono fun _ _ ⟨v, u, he, h1, h2, h3⟩ => ⟨_, he, ⟨[v, u, .bool (decide (n ≠ 0))], rfl, .cons (nat_P h1 hX) (.cons (nat_P h2 hX) (.cons rfl .nil))⟩, h3⟩
def shiftN (m : Nat) (n : Int) : Nat := if 0 ≤ n then m * 2 ^ n.toNat else m / 2 ^ (-n).toNat
end
def d_rat_Norm : Den := den1 aRat (fun a => a.sz ≤ 1000000000000) fun a => ratV (cr (a.q))
theorem s_rat_Norm : Sound Tryz.prog 66 d_rat_Norm :=
  told1 Tryz.call66 (fun _ => rfl) fun a _ w u h hX hu => retRat hX (ratNorm w u a.q (rat_R hu h))
def d_rat_Of : Den := den3 aBool aLim aLim (fun _ n d => n.length ≤ 1000000000000 ∧ d.length ≤ 1000000000000) fun s n d => ratV (cr (qv s (val n) (val d)))
theorem s_rat_Of : Sound Tryz.prog 63 d_rat_Of :=
  told3 Tryz.call63 (fun _ _ _ => rfl) fun s n d _ w u v t h hX hu hv ht => by
    have e : u = .bool s := hu
    subst e
    exact retRat hX (ratOf w s v t n d 0 0 (lim_nt hv) (lim_nt ht) h.1 h.2)
def d_rat_Add : Den := den2 aRat aRat (fun a b => a.sz ≤ 100000000000 ∧ b.sz ≤ 100000000000) fun a b => ratV (cr (a.q + b.q))
theorem s_rat_Add : Sound Tryz.prog 26 d_rat_Add :=
  told2 Tryz.call26 (fun _ _ => rfl) fun a b _ w u v h hX hu hv => retRat hX (ratAdd w u v a.q b.q (rat_R hu h.1) (rat_R hv h.2))
def d_rat_Sub : Den := den2 aRat aRat (fun a b => a.sz ≤ 100000000000 ∧ b.sz ≤ 100000000000) fun a b => ratV (cr (a.q - b.q))
theorem s_rat_Sub : Sound Tryz.prog 42 d_rat_Sub :=
  told2 Tryz.call42 (fun _ _ => rfl) fun a b _ w u v h hX hu hv => retRat hX (ratSub w u v a.q b.q (rat_R hu h.1) (rat_R hv h.2))
def d_rat_Mul : Den := den2 aRat aRat (fun a b => a.sz ≤ 100000000000 ∧ b.sz ≤ 100000000000) fun a b => ratV (cr (a.q * b.q))
theorem s_rat_Mul : Sound Tryz.prog 49 d_rat_Mul :=
  told2 Tryz.call49 (fun _ _ => rfl) fun a b _ w u v h hX hu hv => retRat hX (ratMul w u v a.q b.q (rat_R hu h.1) (rat_R hv h.2))
def d_rat_Div : Den := den2 aRat aRat (fun a b => a.sz ≤ 100000000000 ∧ b.sz ≤ 100000000000) fun a b => ratOkV (cr (a.q / b.q)) (!decide (b.q = 0))
theorem s_rat_Div : Sound Tryz.prog 25 d_rat_Div :=
  told2 Tryz.call25 (fun _ _ => rfl) fun a b _ w u v h hX hu hv => retRatOk hX (ratDiv w u v a.q b.q (rat_R hu h.1) (rat_R hv h.2))
def d_rat_Cmp : Den := den2 aRat aRat (fun a b => a.sz ≤ 100000000000 ∧ b.sz ≤ 100000000000) fun a b => intV (cmpQ a.q b.q)
theorem s_rat_Cmp : Sound Tryz.prog 22 d_rat_Cmp :=
  told2 Tryz.call22 (fun _ _ => rfl) fun a b _ w u v h _ hu hv => retFlat (fun _ => rfl) (ratCmp w u v a.q b.q (rat_R hu h.1) (rat_R hv h.2))
def d_rat_Floor : Den := den1 aRat (fun a => a.sz ≤ 100000000000) fun a => ratV (cr (((a.q.floor : Int) : Rat)))
theorem s_rat_Floor : Sound Tryz.prog 114 d_rat_Floor :=
  told1 Tryz.call114 (fun _ => rfl) fun a _ w u h hX hu => retRat hX (ratFloor w u a.q (rat_R hu h))
def d_rat_Int : Den := den1 aInt (fun n => -9223372036854775808 ≤ n ∧ n < 9223372036854775808) fun n => ratV (cr (n : Rat))
theorem s_rat_Int : Sound Tryz.prog 27 d_rat_Int :=
  told1 Tryz.call27 (fun _ => rfl) fun n _ w u h hX hu => by
    have e : u = .int .i64 n := hu
    subst e
    exact retRat hX (ratInt w n h.1 h.2)
def d_ref2_Norm : Den := den1 aRat (fun a => a.sz ≤ 100000000000) fun a => ratV (cr (a.q))
theorem s_ref2_Norm : Sound Tryz.prog 36 d_ref2_Norm :=
  told1 Tryz.call36 (fun _ => rfl) fun a _ w u h hX hu => retRat hX (r2Norm w u a.q (rat_R hu h))
def d_ref2_Of : Den := den3 aBool aLim aLim (fun _ n d => n.length ≤ 100000000000 ∧ d.length ≤ 100000000000) fun s n d => ratV (cr (qv s (val n) (val d)))
theorem s_ref2_Of : Sound Tryz.prog 13 d_ref2_Of :=
  told3 Tryz.call13 (fun _ _ _ => rfl) fun s n d _ w u v t h hX hu hv ht => by
    have e : u = .bool s := hu
    subst e
    exact retRat hX (r2Of w s v t n d 0 0 (lim_nt hv) (lim_nt ht) h.1 h.2)
def d_ref2_Neg : Den := den1 aRat (fun a => a.sz ≤ 100000000000) fun a => ratV (cr (-a.q))
theorem s_ref2_Neg : Sound Tryz.prog 35 d_ref2_Neg :=
  told1 Tryz.call35 (fun _ => rfl) fun a _ w u h hX hu => retRat hX (r2Neg w u a.q (rat_R hu h))
def d_nat_Trim : Den := den1 aLim (fun a => a.length ≤ 8000000000000) fun a => natV (val a)
theorem s_nat_Trim : Sound Tryz.prog 119 d_nat_Trim :=
  told1 Tryz.call119 (fun _ => rfl) fun a _ w u h hX hu => retNat hX (natTrimC w u a 0 (lim_nt hu) h)
def d_nat_Of : Den := den1 aU64 (fun n => 0 ≤ n ∧ n < 18446744073709551616) fun n => natV n.toNat
theorem s_nat_Of : Sound Tryz.prog 64 d_nat_Of :=
  told1 Tryz.call64 (fun _ => rfl) fun n _ w u h hX hu => by
    obtain ⟨m, rfl⟩ := Int.eq_ofNat_of_zero_le h.1
    have e : u = .int .u64 (m : Int) := hu
    subst e
    exact retNat hX (natOf w m (by omega))
def d_nat_Cmp : Den := den2 aLim aLim (fun a b => a.length ≤ 8000000000000 ∧ b.length ≤ 8000000000000) fun a b => intV (cmpI (val a) (val b))
theorem s_nat_Cmp : Sound Tryz.prog 117 d_nat_Cmp :=
  told2 Tryz.call117 (fun _ _ => rfl) fun a b _ w u v h _ hu hv => retFlat (fun _ => rfl) (natCmp w u v a b 0 0 (lim_nt hu) (lim_nt hv) h.1 h.2)
def d_nat_Add : Den := den2 aLim aLim (fun a b => a.length ≤ 1000000000000 ∧ b.length ≤ 1000000000000) fun a b => natV (val a + val b)
theorem s_nat_Add : Sound Tryz.prog 68 d_nat_Add :=
  told2 Tryz.call68 (fun _ _ => rfl) fun a b _ w u v h hX hu hv => retNat hX (natAdd w u v a b (lim_nt hu) (lim_nt hv) h.1 h.2)
def d_nat_Sub : Den := den2 aLim aLim (fun a b => a.length ≤ 1000000000000 ∧ b.length ≤ 1000000000000) fun a b => natOkV (val a - val b) (decide (val b ≤ val a))
theorem s_nat_Sub : Sound Tryz.prog 69 d_nat_Sub :=
  told2 Tryz.call69 (fun _ _ => rfl) fun a b _ w u v h hX hu hv => retNatOk hX (natSub w u v a b 0 0 (lim_nt hu) (lim_nt hv) h.1 h.2)
def d_nat_Mul : Den := den2 aLim aLim (fun a b => a.length ≤ 1000000000000 ∧ b.length ≤ 1000000000000) fun a b => natV (val a * val b)
theorem s_nat_Mul : Sound Tryz.prog 67 d_nat_Mul :=
  told2 Tryz.call67 (fun _ _ => rfl) fun a b _ w u v h hX hu hv => retNat hX (natMul w u v a b 0 0 (lim_nt hu) (lim_nt hv) h.1 h.2)
def d_nat_DivMod : Den := den2 aLim aLim (fun a b => a.length ≤ 1000000000000 ∧ b.length ≤ 1000000000000) fun a b => divV (val a) (val b)
theorem s_nat_DivMod : Sound Tryz.prog 120 d_nat_DivMod :=
  told2 Tryz.call120 (fun _ _ => rfl) fun a b _ w u v h hX hu hv => retDiv hX (natDivMod w u v a b 0 0 (lim_nt hu) (lim_nt hv) h.1 h.2)
def d_nat_Gcd : Den := den2 aLim aLim (fun a b => a.length ≤ 1000000000000 ∧ b.length ≤ 1000000000000) fun a b => natV (Nat.gcd (val a) (val b))
theorem s_nat_Gcd : Sound Tryz.prog 118 d_nat_Gcd :=
  told2 Tryz.call118 (fun _ _ => rfl) fun a b _ w u v h hX hu hv => retNat hX (natGcd w u v a b 0 0 (lim_nt hu) (lim_nt hv) h.1 h.2)
def d_nat_Shift : Den := den2 aLim aInt (fun a n => a.length ≤ 7000000000000 ∧ -4096 ≤ n ∧ n ≤ 4096) fun a n => natV (shiftN (val a) n)
theorem s_nat_Shift : Sound Tryz.prog 127 d_nat_Shift :=
  told2 Tryz.call127 (fun _ _ => rfl) fun a n _ w u v h hX hu hv => by
    have e : v = .int .i64 n := hv
    subst e
    obtain ⟨hL, h1, h2⟩ := h
    unfold shiftN
    by_cases hn : 0 ≤ n
    · obtain ⟨m, rfl⟩ := Int.eq_ofNat_of_zero_le hn
      rw [if_pos hn]
      exact retNat hX (natShiftUp w u a 0 m (lim_nt hu) (by omega) (by omega))
    · obtain ⟨m, hm⟩ := Int.eq_ofNat_of_zero_le (show 0 ≤ -n by omega)
      have hm' : n = -(m : Int) := by omega
      subst hm'
      rw [if_neg hn, show (- -(m : Int)).toNat = m by omega]
      exact retNat hX (natShiftDown w u a 0 m (lim_nt hu) (by omega) (by omega) (by omega))
def d_ref1_Of : Den := den1 aU64 (fun n => 0 ≤ n ∧ n < 18446744073709551616) fun n => natV n.toNat
theorem s_ref1_Of : Sound Tryz.prog 14 d_ref1_Of :=
  told1 Tryz.call14 (fun _ => rfl) fun n _ w u h hX hu => by
    obtain ⟨m, rfl⟩ := Int.eq_ofNat_of_zero_le h.1
    have e : u = .int .u64 (m : Int) := hu
    subst e
    exact retNat hX (refOf w m (by omega))
def d_ref1_Cmp : Den := den2 aLim aLim (fun a b => a.length ≤ 8000000000000 ∧ b.length ≤ 8000000000000) fun a b => intV (cmpI (val a) (val b))
theorem s_ref1_Cmp : Sound Tryz.prog 86 d_ref1_Cmp :=
  told2 Tryz.call86 (fun _ _ => rfl) fun a b _ w u v h _ hu hv => retFlat (fun _ => rfl) (refCmp w u v a b 0 0 (lim_nt hu) (lim_nt hv) h.1 h.2)
def d_ref1_Add : Den := den2 aLim aLim (fun a b => a.length ≤ 1000000000000 ∧ b.length ≤ 1000000000000) fun a b => natV (val a + val b)
theorem s_ref1_Add : Sound Tryz.prog 19 d_ref1_Add :=
  told2 Tryz.call19 (fun _ _ => rfl) fun a b _ w u v h hX hu hv => retNat hX (refAdd w u v a b 0 0 (lim_nt hu) (lim_nt hv) h.1 h.2)
def d_ref1_Sub : Den := den2 aLim aLim (fun a b => a.length ≤ 1000000000000 ∧ b.length ≤ 1000000000000) fun a b => natOkV (val a - val b) (decide (val b ≤ val a))
theorem s_ref1_Sub : Sound Tryz.prog 57 d_ref1_Sub :=
  told2 Tryz.call57 (fun _ _ => rfl) fun a b _ w u v h hX hu hv => retNatOk hX (refSub w u v a b 0 0 (lim_nt hu) (lim_nt hv) h.1 h.2)
def d_ref1_Mul : Den := den2 aLim aLim (fun a b => a.length ≤ 1000000000000 ∧ b.length ≤ 1000000000000) fun a b => natV (val a * val b)
theorem s_ref1_Mul : Sound Tryz.prog 59 d_ref1_Mul :=
  told2 Tryz.call59 (fun _ _ => rfl) fun a b _ w u v h hX hu hv => retNat hX (refMul1 w u v a b 0 0 (lim_nt hu) (lim_nt hv) h.1 h.2)
def d_ref1_DivMod : Den := den2 aLim aLim (fun a b => a.length ≤ 500000000000 ∧ b.length ≤ 500000000000) fun a b => divV (val a) (val b)
theorem s_ref1_DivMod : Sound Tryz.prog 88 d_ref1_DivMod :=
  told2 Tryz.call88 (fun _ _ => rfl) fun a b _ w u v h hX hu hv => retDiv hX (refDivMod w u v a b 0 0 (lim_nt hu) (lim_nt hv) h.1 h.2)
def d_nat_Is : Den := den1 aLim (fun a => a.length ≤ 8000000000000) fun a => boolV (trB a)
theorem s_nat_Is : Sound Tryz.prog 116 d_nat_Is :=
  told1 Tryz.call116 (fun _ => rfl) fun a _ w u h _ hu => retFlat (fun _ => rfl) ((natIs w u a 0 (lim_nt hu) h).mono fun _ _ ⟨h1, h2⟩ => ⟨h1, h2 ▸ Below.refl _ _⟩)
end Go.Proofs.YtocpmekblkfdiaaGreatDoor
