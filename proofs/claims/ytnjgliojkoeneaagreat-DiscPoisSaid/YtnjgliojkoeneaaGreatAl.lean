/- The abstract walk, twelfth part: the table of types; the contracts of nat, rat, vernierref1, vernierref2 as denotations. Conditions: numbers of limbs as each one says. -/
import Derived.Test.YtnjgliojkoeneaaGreatAj
import Derived.Test.YtnjgliojkoeneaaGreatEqs
import Derived.Test.YtnjgliojkoeneaaGreatGG
namespace Go.Proofs.YtnjgliojkoeneaaGreat
open Go.RowKit
theorem info_of {P : Program} {t : Nat} {z : Value} {n : Nat} (h : (P.info? t).map (fun i => (i.zero, i.size, decide (i.bytes ≤ 128))) = some (some z, n, true)) : ∃ i, P.info? t = some i ∧ i.zero = some z ∧ i.size = n ∧ i.bytes ≤ 128 := by
  obtain ⟨i, hi, he⟩ := Option.map_eq_some_iff.1 h
  simp only [Prod.mk.injEq, decide_eq_true_eq] at he
  exact ⟨i, hi, he.1, he.2.1, he.2.2⟩
@[go_sem] def desc_bool : TypeDesc := .bool
@[go_sem] def z_bool : A1 := .cel (.bool false)
def ti_bool : TI := ⟨1, false, .bool false, z_bool, desc_bool⟩
theorem ti_bool_info : (Tryz.prog.info? 4).map (fun i => (i.zero, i.size, decide (i.bytes ≤ 128))) = some (some (.bool false : Value), 1, true) := by kernel_rfl
theorem ti_bool_ok : TIOk Tryz.prog 4 ti_bool := ⟨info_of ti_bool_info, Tryz.sizeOf4, Tryz.isAgg4, Tryz.zeroValue4, Tryz.underlying4, fun _ _ => rfl, rfl, fun _ => rfl⟩
@[go_sem] def desc_int : TypeDesc := .int .i64
@[go_sem] def z_int : A1 := .cel (.int .i64 0)
def ti_int : TI := ⟨1, false, .int .i64 0, z_int, desc_int⟩
theorem ti_int_info : (Tryz.prog.info? 3).map (fun i => (i.zero, i.size, decide (i.bytes ≤ 128))) = some (some (.int .i64 0 : Value), 1, true) := by kernel_rfl
theorem ti_int_ok : TIOk Tryz.prog 3 ti_int := ⟨info_of ti_int_info, Tryz.sizeOf3, Tryz.isAgg3, Tryz.zeroValue3, Tryz.underlying3, fun _ _ => rfl, rfl, fun _ => rfl⟩
@[go_sem] def desc_uint : TypeDesc := .int .u64
@[go_sem] def z_uint : A1 := .cel (.int .u64 0)
def ti_uint : TI := ⟨1, false, .int .u64 0, z_uint, desc_uint⟩
theorem ti_uint_info : (Tryz.prog.info? 87).map (fun i => (i.zero, i.size, decide (i.bytes ≤ 128))) = some (some (.int .u64 0 : Value), 1, true) := by kernel_rfl
theorem ti_uint_ok : TIOk Tryz.prog 87 ti_uint := ⟨info_of ti_uint_info, Tryz.sizeOf87, Tryz.isAgg87, Tryz.zeroValue87, Tryz.underlying87, fun _ _ => rfl, rfl, fun _ => rfl⟩
@[go_sem] def desc_uint64 : TypeDesc := .int .u64
@[go_sem] def z_uint64 : A1 := .cel (.int .u64 0)
def ti_uint64 : TI := ⟨1, false, .int .u64 0, z_uint64, desc_uint64⟩
theorem ti_uint64_info : (Tryz.prog.info? 64).map (fun i => (i.zero, i.size, decide (i.bytes ≤ 128))) = some (some (.int .u64 0 : Value), 1, true) := by kernel_rfl
theorem ti_uint64_ok : TIOk Tryz.prog 64 ti_uint64 := ⟨info_of ti_uint64_info, Tryz.sizeOf64, Tryz.isAgg64, Tryz.zeroValue64, Tryz.underlying64, fun _ _ => rfl, rfl, fun _ => rfl⟩
@[go_sem] def desc_uint32 : TypeDesc := .int .u32
@[go_sem] def z_uint32 : A1 := .cel (.int .u32 0)
def ti_uint32 : TI := ⟨1, false, .int .u32 0, z_uint32, desc_uint32⟩
theorem ti_uint32_info : (Tryz.prog.info? 50).map (fun i => (i.zero, i.size, decide (i.bytes ≤ 128))) = some (some (.int .u32 0 : Value), 1, true) := by kernel_rfl
theorem ti_uint32_ok : TIOk Tryz.prog 50 ti_uint32 := ⟨info_of ti_uint32_info, Tryz.sizeOf50, Tryz.isAgg50, Tryz.zeroValue50, Tryz.underlying50, fun _ _ => rfl, rfl, fun _ => rfl⟩
@[go_sem] def desc___uint32 : TypeDesc := .slice 50
@[go_sem] def z___uint32 : A1 := .cel .nil
def ti___uint32 : TI := ⟨1, false, .slice none 0 0, z___uint32, desc___uint32⟩
theorem ti___uint32_info : (Tryz.prog.info? 22).map (fun i => (i.zero, i.size, decide (i.bytes ≤ 128))) = some (some (.slice none 0 0 : Value), 1, true) := by kernel_rfl
theorem ti___uint32_ok : TIOk Tryz.prog 22 ti___uint32 := ⟨info_of ti___uint32_info, Tryz.sizeOf22, Tryz.isAgg22, Tryz.zeroValue22, Tryz.underlying22, fun _ _ => rfl, rfl, fun _ => rfl⟩
def flds_api_Rat : Array Field := #[{ name := "Neg", type := 4, offset := 0, embedded := false, tag := "", pkgPath := "", byteOffset := 0 }, { name := "N", type := 22, offset := 1, embedded := false, tag := "", pkgPath := "", byteOffset := 8 }, { name := "D", type := 22, offset := 2, embedded := false, tag := "", pkgPath := "", byteOffset := 32 }]
def desc_api_Rat : TypeDesc := .struct flds_api_Rat
@[go_sem] def z_api_Rat : A1 := .agg [.bool false, .nil, .nil]
def ti_api_Rat : TI := ⟨3, true, .agg #[.bool false, .slice none 0 0, .slice none 0 0], z_api_Rat, desc_api_Rat⟩
theorem ti_api_Rat_info : (Tryz.prog.info? 24).map (fun i => (i.zero, i.size, decide (i.bytes ≤ 128))) = some (some (.agg #[.bool false, .slice none 0 0, .slice none 0 0] : Value), 3, true) := by kernel_rfl
theorem ti_api_Rat_ok : TIOk Tryz.prog 24 ti_api_Rat := ⟨info_of ti_api_Rat_info, Tryz.sizeOf24, Tryz.isAgg24, Tryz.zeroValue24, Tryz.underlying24, fun _ _ => ⟨_, rfl, .cons rfl (.cons rfl (.cons rfl (.nil)))⟩, rfl, fun h => by cases h⟩
def flds_api_Ball : Array Field := #[{ name := "Lo", type := 24, offset := 0, embedded := false, tag := "", pkgPath := "", byteOffset := 0 }, { name := "Hi", type := 24, offset := 3, embedded := false, tag := "", pkgPath := "", byteOffset := 56 }]
def desc_api_Ball : TypeDesc := .struct flds_api_Ball
@[go_sem] def z_api_Ball : A1 := .agg [.bool false, .nil, .nil, .bool false, .nil, .nil]
def ti_api_Ball : TI := ⟨6, true, .agg #[.bool false, .slice none 0 0, .slice none 0 0, .bool false, .slice none 0 0, .slice none 0 0], z_api_Ball, desc_api_Ball⟩
theorem ti_api_Ball_info : (Tryz.prog.info? 26).map (fun i => (i.zero, i.size, decide (i.bytes ≤ 128))) = some (some (.agg #[.bool false, .slice none 0 0, .slice none 0 0, .bool false, .slice none 0 0, .slice none 0 0] : Value), 6, true) := by kernel_rfl
theorem ti_api_Ball_ok : TIOk Tryz.prog 26 ti_api_Ball := ⟨info_of ti_api_Ball_info, Tryz.sizeOf26, Tryz.isAgg26, Tryz.zeroValue26, Tryz.underlying26, fun _ _ => ⟨_, rfl, .cons rfl (.cons rfl (.cons rfl (.cons rfl (.cons rfl (.cons rfl (.nil))))))⟩, rfl, fun h => by cases h⟩
@[go_sem] def desc_____uint32 : TypeDesc := .slice 22
@[go_sem] def z_____uint32 : A1 := .cel .nil
def ti_____uint32 : TI := ⟨1, false, .slice none 0 0, z_____uint32, desc_____uint32⟩
theorem ti_____uint32_info : (Tryz.prog.info? 74).map (fun i => (i.zero, i.size, decide (i.bytes ≤ 128))) = some (some (.slice none 0 0 : Value), 1, true) := by kernel_rfl
theorem ti_____uint32_ok : TIOk Tryz.prog 74 ti_____uint32 := ⟨info_of ti_____uint32_info, Tryz.sizeOf74, Tryz.isAgg74, Tryz.zeroValue74, Tryz.underlying74, fun _ _ => rfl, rfl, fun _ => rfl⟩
def flds_fix_Span : Array Field := #[{ name := "Lo", type := 22, offset := 0, embedded := false, tag := "", pkgPath := "", byteOffset := 0 }, { name := "Hi", type := 22, offset := 1, embedded := false, tag := "", pkgPath := "", byteOffset := 24 }]
def desc_fix_Span : TypeDesc := .struct flds_fix_Span
@[go_sem] def z_fix_Span : A1 := .agg [.nil, .nil]
def ti_fix_Span : TI := ⟨2, true, .agg #[.slice none 0 0, .slice none 0 0], z_fix_Span, desc_fix_Span⟩
theorem ti_fix_Span_info : (Tryz.prog.info? 58).map (fun i => (i.zero, i.size, decide (i.bytes ≤ 128))) = some (some (.agg #[.slice none 0 0, .slice none 0 0] : Value), 2, true) := by kernel_rfl
theorem ti_fix_Span_ok : TIOk Tryz.prog 58 ti_fix_Span := ⟨info_of ti_fix_Span_info, Tryz.sizeOf58, Tryz.isAgg58, Tryz.zeroValue58, Tryz.underlying58, fun _ _ => ⟨_, rfl, .cons rfl (.cons rfl (.nil))⟩, rfl, fun h => by cases h⟩
@[go_sem] def desc___fix_Span : TypeDesc := .slice 58
@[go_sem] def z___fix_Span : A1 := .cel .nil
def ti___fix_Span : TI := ⟨1, false, .slice none 0 0, z___fix_Span, desc___fix_Span⟩
theorem ti___fix_Span_info : (Tryz.prog.info? 55).map (fun i => (i.zero, i.size, decide (i.bytes ≤ 128))) = some (some (.slice none 0 0 : Value), 1, true) := by kernel_rfl
theorem ti___fix_Span_ok : TIOk Tryz.prog 55 ti___fix_Span := ⟨info_of ti___fix_Span_info, Tryz.sizeOf55, Tryz.isAgg55, Tryz.zeroValue55, Tryz.underlying55, fun _ _ => rfl, rfl, fun _ => rfl⟩
def flds_vernierref4_Int : Array Field := #[{ name := "Neg", type := 4, offset := 0, embedded := false, tag := "", pkgPath := "", byteOffset := 0 }, { name := "N", type := 22, offset := 1, embedded := false, tag := "", pkgPath := "", byteOffset := 8 }]
def desc_vernierref4_Int : TypeDesc := .struct flds_vernierref4_Int
@[go_sem] def z_vernierref4_Int : A1 := .agg [.bool false, .nil]
def ti_vernierref4_Int : TI := ⟨2, true, .agg #[.bool false, .slice none 0 0], z_vernierref4_Int, desc_vernierref4_Int⟩
theorem ti_vernierref4_Int_info : (Tryz.prog.info? 39).map (fun i => (i.zero, i.size, decide (i.bytes ≤ 128))) = some (some (.agg #[.bool false, .slice none 0 0] : Value), 2, true) := by kernel_rfl
theorem ti_vernierref4_Int_ok : TIOk Tryz.prog 39 ti_vernierref4_Int := ⟨info_of ti_vernierref4_Int_info, Tryz.sizeOf39, Tryz.isAgg39, Tryz.zeroValue39, Tryz.underlying39, fun _ _ => ⟨_, rfl, .cons rfl (.cons rfl (.nil))⟩, rfl, fun h => by cases h⟩
def flds_vernierref4_Iv : Array Field := #[{ name := "Lo", type := 39, offset := 0, embedded := false, tag := "", pkgPath := "", byteOffset := 0 }, { name := "Hi", type := 39, offset := 2, embedded := false, tag := "", pkgPath := "", byteOffset := 32 }]
def desc_vernierref4_Iv : TypeDesc := .struct flds_vernierref4_Iv
@[go_sem] def z_vernierref4_Iv : A1 := .agg [.bool false, .nil, .bool false, .nil]
def ti_vernierref4_Iv : TI := ⟨4, true, .agg #[.bool false, .slice none 0 0, .bool false, .slice none 0 0], z_vernierref4_Iv, desc_vernierref4_Iv⟩
theorem ti_vernierref4_Iv_info : (Tryz.prog.info? 41).map (fun i => (i.zero, i.size, decide (i.bytes ≤ 128))) = some (some (.agg #[.bool false, .slice none 0 0, .bool false, .slice none 0 0] : Value), 4, true) := by kernel_rfl
theorem ti_vernierref4_Iv_ok : TIOk Tryz.prog 41 ti_vernierref4_Iv := ⟨info_of ti_vernierref4_Iv_info, Tryz.sizeOf41, Tryz.isAgg41, Tryz.zeroValue41, Tryz.underlying41, fun _ _ => ⟨_, rfl, .cons rfl (.cons rfl (.cons rfl (.cons rfl (.nil))))⟩, rfl, fun h => by cases h⟩
@[go_sem] def desc___vernierref4_Int : TypeDesc := .slice 39
@[go_sem] def z___vernierref4_Int : A1 := .cel .nil
def ti___vernierref4_Int : TI := ⟨1, false, .slice none 0 0, z___vernierref4_Int, desc___vernierref4_Int⟩
theorem ti___vernierref4_Int_info : (Tryz.prog.info? 91).map (fun i => (i.zero, i.size, decide (i.bytes ≤ 128))) = some (some (.slice none 0 0 : Value), 1, true) := by kernel_rfl
theorem ti___vernierref4_Int_ok : TIOk Tryz.prog 91 ti___vernierref4_Int := ⟨info_of ti___vernierref4_Int_info, Tryz.sizeOf91, Tryz.isAgg91, Tryz.zeroValue91, Tryz.underlying91, fun _ _ => rfl, rfl, fun _ => rfl⟩
def ttOf : List (Nat × TI) → Nat → Option TI
  | [], _ => none
  | (t, ti) :: l, n => if (n == t) = true then some ti else ttOf l n
def TTAll (P : Program) : List (Nat × TI) → Prop
  | [] => True
  | (t, ti) :: l => TIOk P t ti ∧ TTAll P l
theorem ttOf_ok {P : Program} : ∀ {l : List (Nat × TI)}, TTAll P l → TTOk P (ttOf l)
  | [], _, t, ti, h => by cases h
  | (t', ti') :: l, h, t, ti, ht => by
    unfold ttOf at ht
    split at ht
    · rename_i he; cases ht; rw [beq_iff_eq.1 he]; exact h.1
    · exact ttOf_ok h.2 t ti ht
def TT : Nat → Option TI := ttOf [(4, ti_bool), (3, ti_int), (87, ti_uint), (64, ti_uint64), (50, ti_uint32), (22, ti___uint32), (24, ti_api_Rat), (26, ti_api_Ball), (74, ti_____uint32), (58, ti_fix_Span), (55, ti___fix_Span), (39, ti_vernierref4_Int), (41, ti_vernierref4_Iv), (91, ti___vernierref4_Int)]
theorem TT_ok : TTOk Tryz.prog TT := ttOf_ok ⟨ti_bool_ok, ti_int_ok, ti_uint_ok, ti_uint64_ok, ti_uint32_ok, ti___uint32_ok, ti_api_Rat_ok, ti_api_Ball_ok, ti_____uint32_ok, ti_fix_Span_ok, ti___fix_Span_ok, ti_vernierref4_Int_ok, ti_vernierref4_Iv_ok, ti___vernierref4_Int_ok, trivial⟩
@[go_sem] theorem TT_ti_bool : TT 4 = some ti_bool := rfl
@[go_sem] theorem TT_ti_int : TT 3 = some ti_int := rfl
@[go_sem] theorem TT_ti_uint : TT 87 = some ti_uint := rfl
@[go_sem] theorem TT_ti_uint64 : TT 64 = some ti_uint64 := rfl
@[go_sem] theorem TT_ti_uint32 : TT 50 = some ti_uint32 := rfl
@[go_sem] theorem TT_ti___uint32 : TT 22 = some ti___uint32 := rfl
@[go_sem] theorem TT_ti_api_Rat : TT 24 = some ti_api_Rat := rfl
@[go_sem] theorem TT_ti_api_Ball : TT 26 = some ti_api_Ball := rfl
@[go_sem] theorem TT_ti_____uint32 : TT 74 = some ti_____uint32 := rfl
@[go_sem] theorem TT_ti_fix_Span : TT 58 = some ti_fix_Span := rfl
@[go_sem] theorem TT_ti___fix_Span : TT 55 = some ti___fix_Span := rfl
@[go_sem] theorem TT_ti_vernierref4_Int : TT 39 = some ti_vernierref4_Int := rfl
@[go_sem] theorem TT_ti_vernierref4_Iv : TT 41 = some ti_vernierref4_Iv := rfl
@[go_sem] theorem TT_ti___vernierref4_Int : TT 91 = some ti___vernierref4_Int := rfl
section
variable {N : Nat} {fn : Nat → Option Den} {fz : Nat → List Nat} {id off : Nat} {cs : List CV} {ins : List AV}
@[go_sem] theorem rk_tt_bool : Env.tt ⟨N, TT, fn, fz⟩ 4 = some ti_bool := rfl
@[go_sem] theorem rk_desc_bool : Env.desc ⟨N, TT, fn, fz⟩ 4 = desc_bool := rfl
@[go_sem] theorem rk_sz_bool : Env.sz ⟨N, TT, fn, fz⟩ 4 = 1 := rfl
@[go_sem] theorem rk_nl_bool {x : Operand} : needsOf ⟨N, TT, fn, fz⟩ (.load 4 x) [.one (.cel (.ptr id off))] = [(id, off + 1)] := rfl
@[go_sem] theorem rk_ns_bool {x y : Operand} {v : AV} : needsOf ⟨N, TT, fn, fz⟩ (.store 4 x y) [.one (.cel (.ptr id off)), v] = [(id, off + 1)] := rfl
@[go_sem] theorem rk_np_bool {x : Operand} : needsOf ⟨N, TT, fn, fz⟩ (.load 4 x) [.one (.cel (.pto cs))] = [] := rfl
@[go_sem] theorem rk_load_bool {c0 : CV} : loadAV (some ti_bool) [.one (.cel (.ptr id off))] [some (.cv c0)] = (True, .one (.cel c0)) := rfl
@[go_sem] theorem rk_lpto_bool {c0 : CV} : loadAV (some ti_bool) [.one (.cel (.pto (c0 :: cs)))] [] = (True, .one (.cel c0.strip)) := by
  simp [loadAV, ti_bool, ofCells]
@[go_sem] theorem rk_di_bool : ti_bool.desc = desc_bool := rfl
@[go_sem] theorem rk_z_bool : ti_bool.z1 = z_bool := rfl
@[go_sem] theorem rk_agg_bool : ti_bool.agg = false := rfl
@[go_sem] theorem rk_size_bool : ti_bool.size = 1 := rfl
@[go_sem] theorem rk_tt_int : Env.tt ⟨N, TT, fn, fz⟩ 3 = some ti_int := rfl
@[go_sem] theorem rk_desc_int : Env.desc ⟨N, TT, fn, fz⟩ 3 = desc_int := rfl
@[go_sem] theorem rk_sz_int : Env.sz ⟨N, TT, fn, fz⟩ 3 = 1 := rfl
@[go_sem] theorem rk_nl_int {x : Operand} : needsOf ⟨N, TT, fn, fz⟩ (.load 3 x) [.one (.cel (.ptr id off))] = [(id, off + 1)] := rfl
@[go_sem] theorem rk_ns_int {x y : Operand} {v : AV} : needsOf ⟨N, TT, fn, fz⟩ (.store 3 x y) [.one (.cel (.ptr id off)), v] = [(id, off + 1)] := rfl
@[go_sem] theorem rk_np_int {x : Operand} : needsOf ⟨N, TT, fn, fz⟩ (.load 3 x) [.one (.cel (.pto cs))] = [] := rfl
@[go_sem] theorem rk_load_int {c0 : CV} : loadAV (some ti_int) [.one (.cel (.ptr id off))] [some (.cv c0)] = (True, .one (.cel c0)) := rfl
@[go_sem] theorem rk_lpto_int {c0 : CV} : loadAV (some ti_int) [.one (.cel (.pto (c0 :: cs)))] [] = (True, .one (.cel c0.strip)) := by
  simp [loadAV, ti_int, ofCells]
@[go_sem] theorem rk_di_int : ti_int.desc = desc_int := rfl
@[go_sem] theorem rk_z_int : ti_int.z1 = z_int := rfl
@[go_sem] theorem rk_agg_int : ti_int.agg = false := rfl
@[go_sem] theorem rk_size_int : ti_int.size = 1 := rfl
@[go_sem] theorem rk_tt_uint : Env.tt ⟨N, TT, fn, fz⟩ 87 = some ti_uint := rfl
@[go_sem] theorem rk_desc_uint : Env.desc ⟨N, TT, fn, fz⟩ 87 = desc_uint := rfl
@[go_sem] theorem rk_sz_uint : Env.sz ⟨N, TT, fn, fz⟩ 87 = 1 := rfl
@[go_sem] theorem rk_nl_uint {x : Operand} : needsOf ⟨N, TT, fn, fz⟩ (.load 87 x) [.one (.cel (.ptr id off))] = [(id, off + 1)] := rfl
@[go_sem] theorem rk_ns_uint {x y : Operand} {v : AV} : needsOf ⟨N, TT, fn, fz⟩ (.store 87 x y) [.one (.cel (.ptr id off)), v] = [(id, off + 1)] := rfl
@[go_sem] theorem rk_np_uint {x : Operand} : needsOf ⟨N, TT, fn, fz⟩ (.load 87 x) [.one (.cel (.pto cs))] = [] := rfl
@[go_sem] theorem rk_load_uint {c0 : CV} : loadAV (some ti_uint) [.one (.cel (.ptr id off))] [some (.cv c0)] = (True, .one (.cel c0)) := rfl
@[go_sem] theorem rk_lpto_uint {c0 : CV} : loadAV (some ti_uint) [.one (.cel (.pto (c0 :: cs)))] [] = (True, .one (.cel c0.strip)) := by
  simp [loadAV, ti_uint, ofCells]
@[go_sem] theorem rk_di_uint : ti_uint.desc = desc_uint := rfl
@[go_sem] theorem rk_z_uint : ti_uint.z1 = z_uint := rfl
@[go_sem] theorem rk_agg_uint : ti_uint.agg = false := rfl
@[go_sem] theorem rk_size_uint : ti_uint.size = 1 := rfl
@[go_sem] theorem rk_tt_uint64 : Env.tt ⟨N, TT, fn, fz⟩ 64 = some ti_uint64 := rfl
@[go_sem] theorem rk_desc_uint64 : Env.desc ⟨N, TT, fn, fz⟩ 64 = desc_uint64 := rfl
@[go_sem] theorem rk_sz_uint64 : Env.sz ⟨N, TT, fn, fz⟩ 64 = 1 := rfl
@[go_sem] theorem rk_nl_uint64 {x : Operand} : needsOf ⟨N, TT, fn, fz⟩ (.load 64 x) [.one (.cel (.ptr id off))] = [(id, off + 1)] := rfl
@[go_sem] theorem rk_ns_uint64 {x y : Operand} {v : AV} : needsOf ⟨N, TT, fn, fz⟩ (.store 64 x y) [.one (.cel (.ptr id off)), v] = [(id, off + 1)] := rfl
@[go_sem] theorem rk_np_uint64 {x : Operand} : needsOf ⟨N, TT, fn, fz⟩ (.load 64 x) [.one (.cel (.pto cs))] = [] := rfl
@[go_sem] theorem rk_load_uint64 {c0 : CV} : loadAV (some ti_uint64) [.one (.cel (.ptr id off))] [some (.cv c0)] = (True, .one (.cel c0)) := rfl
@[go_sem] theorem rk_lpto_uint64 {c0 : CV} : loadAV (some ti_uint64) [.one (.cel (.pto (c0 :: cs)))] [] = (True, .one (.cel c0.strip)) := by
  simp [loadAV, ti_uint64, ofCells]
@[go_sem] theorem rk_di_uint64 : ti_uint64.desc = desc_uint64 := rfl
@[go_sem] theorem rk_z_uint64 : ti_uint64.z1 = z_uint64 := rfl
@[go_sem] theorem rk_agg_uint64 : ti_uint64.agg = false := rfl
@[go_sem] theorem rk_size_uint64 : ti_uint64.size = 1 := rfl
@[go_sem] theorem rk_tt_uint32 : Env.tt ⟨N, TT, fn, fz⟩ 50 = some ti_uint32 := rfl
@[go_sem] theorem rk_desc_uint32 : Env.desc ⟨N, TT, fn, fz⟩ 50 = desc_uint32 := rfl
@[go_sem] theorem rk_sz_uint32 : Env.sz ⟨N, TT, fn, fz⟩ 50 = 1 := rfl
@[go_sem] theorem rk_nl_uint32 {x : Operand} : needsOf ⟨N, TT, fn, fz⟩ (.load 50 x) [.one (.cel (.ptr id off))] = [(id, off + 1)] := rfl
@[go_sem] theorem rk_ns_uint32 {x y : Operand} {v : AV} : needsOf ⟨N, TT, fn, fz⟩ (.store 50 x y) [.one (.cel (.ptr id off)), v] = [(id, off + 1)] := rfl
@[go_sem] theorem rk_np_uint32 {x : Operand} : needsOf ⟨N, TT, fn, fz⟩ (.load 50 x) [.one (.cel (.pto cs))] = [] := rfl
@[go_sem] theorem rk_load_uint32 {c0 : CV} : loadAV (some ti_uint32) [.one (.cel (.ptr id off))] [some (.cv c0)] = (True, .one (.cel c0)) := rfl
@[go_sem] theorem rk_lpto_uint32 {c0 : CV} : loadAV (some ti_uint32) [.one (.cel (.pto (c0 :: cs)))] [] = (True, .one (.cel c0.strip)) := by
  simp [loadAV, ti_uint32, ofCells]
@[go_sem] theorem rk_di_uint32 : ti_uint32.desc = desc_uint32 := rfl
@[go_sem] theorem rk_z_uint32 : ti_uint32.z1 = z_uint32 := rfl
@[go_sem] theorem rk_agg_uint32 : ti_uint32.agg = false := rfl
@[go_sem] theorem rk_size_uint32 : ti_uint32.size = 1 := rfl
@[go_sem] theorem rk_tt___uint32 : Env.tt ⟨N, TT, fn, fz⟩ 22 = some ti___uint32 := rfl
@[go_sem] theorem rk_desc___uint32 : Env.desc ⟨N, TT, fn, fz⟩ 22 = desc___uint32 := rfl
@[go_sem] theorem rk_sz___uint32 : Env.sz ⟨N, TT, fn, fz⟩ 22 = 1 := rfl
@[go_sem] theorem rk_nl___uint32 {x : Operand} : needsOf ⟨N, TT, fn, fz⟩ (.load 22 x) [.one (.cel (.ptr id off))] = [(id, off + 1)] := rfl
@[go_sem] theorem rk_ns___uint32 {x y : Operand} {v : AV} : needsOf ⟨N, TT, fn, fz⟩ (.store 22 x y) [.one (.cel (.ptr id off)), v] = [(id, off + 1)] := rfl
@[go_sem] theorem rk_np___uint32 {x : Operand} : needsOf ⟨N, TT, fn, fz⟩ (.load 22 x) [.one (.cel (.pto cs))] = [] := rfl
@[go_sem] theorem rk_load___uint32 {c0 : CV} : loadAV (some ti___uint32) [.one (.cel (.ptr id off))] [some (.cv c0)] = (True, .one (.cel c0)) := rfl
@[go_sem] theorem rk_lpto___uint32 {c0 : CV} : loadAV (some ti___uint32) [.one (.cel (.pto (c0 :: cs)))] [] = (True, .one (.cel c0.strip)) := by
  simp [loadAV, ti___uint32, ofCells]
@[go_sem] theorem rk_di___uint32 : ti___uint32.desc = desc___uint32 := rfl
@[go_sem] theorem rk_z___uint32 : ti___uint32.z1 = z___uint32 := rfl
@[go_sem] theorem rk_agg___uint32 : ti___uint32.agg = false := rfl
@[go_sem] theorem rk_size___uint32 : ti___uint32.size = 1 := rfl
@[go_sem] theorem rk_tt_api_Rat : Env.tt ⟨N, TT, fn, fz⟩ 24 = some ti_api_Rat := rfl
@[go_sem] theorem rk_desc_api_Rat : Env.desc ⟨N, TT, fn, fz⟩ 24 = desc_api_Rat := rfl
@[go_sem] theorem rk_sz_api_Rat : Env.sz ⟨N, TT, fn, fz⟩ 24 = 3 := rfl
@[go_sem] theorem rk_nl_api_Rat {x : Operand} : needsOf ⟨N, TT, fn, fz⟩ (.load 24 x) [.one (.cel (.ptr id off))] = [(id, off + 1), (id, off + 2), (id, off + 3)] := rfl
@[go_sem] theorem rk_ns_api_Rat {x y : Operand} {v : AV} : needsOf ⟨N, TT, fn, fz⟩ (.store 24 x y) [.one (.cel (.ptr id off)), v] = [(id, off + 1), (id, off + 2), (id, off + 3)] := rfl
@[go_sem] theorem rk_np_api_Rat {x : Operand} : needsOf ⟨N, TT, fn, fz⟩ (.load 24 x) [.one (.cel (.pto cs))] = [] := rfl
@[go_sem] theorem rk_load_api_Rat {c0 c1 c2 : CV} : loadAV (some ti_api_Rat) [.one (.cel (.ptr id off))] [some (.cv c0), some (.cv c1), some (.cv c2)] = (True, .one (.agg [c0, c1, c2])) := rfl
@[go_sem] theorem rk_lpto_api_Rat {c0 c1 c2 : CV} : loadAV (some ti_api_Rat) [.one (.cel (.pto (c0 :: c1 :: c2 :: cs)))] [] = (True, .one (.agg [c0.strip, c1.strip, c2.strip])) := by
  simp [loadAV, ti_api_Rat, ofCells]
@[go_sem] theorem rk_z_api_Rat : ti_api_Rat.z1 = z_api_Rat := rfl
@[go_sem] theorem rk_agg_api_Rat : ti_api_Rat.agg = true := rfl
@[go_sem] theorem rk_size_api_Rat : ti_api_Rat.size = 3 := rfl
@[go_sem] theorem rk_d_api_Rat : ti_api_Rat.desc = .struct flds_api_Rat := rfl
@[go_sem] theorem rk_all2_api_Rat : (flds_api_Rat.all fun f => (TT f.type).isSome) = true := by simp [flds_api_Rat, TT, ttOf]
@[go_sem] theorem rk_all_api_Rat : (flds_api_Rat.all fun f => (Env.tt ⟨N, TT, fn, fz⟩ f.type).isSome) = true := by simp [flds_api_Rat, TT, ttOf]
@[go_sem] theorem rk_fa_api_Rat_0 : fieldAddrAV ⟨N, TT, fn, fz⟩ desc_api_Rat 0 [.one (.cel (.ptr id off))] = (True, .one (.cel (.ptr id (off + 0)))) :=
  Prod.ext (eq_true (show 1 ≠ 0 by omega)) rfl
@[go_sem] theorem rk_fp_api_Rat_0 : fieldAddrAV ⟨N, TT, fn, fz⟩ desc_api_Rat 0 [.one (.cel (.pto cs))] = (0 ≤ cs.length, .one (.cel (.pto (cs.drop 0)))) :=
  Prod.ext (propext ⟨fun h => h.2, fun h => ⟨show 1 ≠ 0 by omega, h⟩⟩) rfl
@[go_sem] theorem rk_f_api_Rat_0 : fieldAV ⟨N, TT, fn, fz⟩ desc_api_Rat 0 [.one (.agg cs)] = (0 + 1 ≤ cs.length, ofCells false ((cs.drop 0).take 1)) := rfl
@[go_sem] theorem rk_pl_api_Rat_0 : placeOf ⟨N, TT, fn, fz⟩ flds_api_Rat 0 = some (0, 1) := rfl
@[go_sem] theorem rk_fa_api_Rat_1 : fieldAddrAV ⟨N, TT, fn, fz⟩ desc_api_Rat 1 [.one (.cel (.ptr id off))] = (True, .one (.cel (.ptr id (off + 1)))) :=
  Prod.ext (eq_true (show 1 ≠ 0 by omega)) rfl
@[go_sem] theorem rk_fp_api_Rat_1 : fieldAddrAV ⟨N, TT, fn, fz⟩ desc_api_Rat 1 [.one (.cel (.pto cs))] = (1 ≤ cs.length, .one (.cel (.pto (cs.drop 1)))) :=
  Prod.ext (propext ⟨fun h => h.2, fun h => ⟨show 1 ≠ 0 by omega, h⟩⟩) rfl
@[go_sem] theorem rk_f_api_Rat_1 : fieldAV ⟨N, TT, fn, fz⟩ desc_api_Rat 1 [.one (.agg cs)] = (1 + 1 ≤ cs.length, ofCells false ((cs.drop 1).take 1)) := rfl
@[go_sem] theorem rk_pl_api_Rat_1 : placeOf ⟨N, TT, fn, fz⟩ flds_api_Rat 1 = some (1, 1) := rfl
@[go_sem] theorem rk_fa_api_Rat_2 : fieldAddrAV ⟨N, TT, fn, fz⟩ desc_api_Rat 2 [.one (.cel (.ptr id off))] = (True, .one (.cel (.ptr id (off + 2)))) :=
  Prod.ext (eq_true (show 1 ≠ 0 by omega)) rfl
@[go_sem] theorem rk_fp_api_Rat_2 : fieldAddrAV ⟨N, TT, fn, fz⟩ desc_api_Rat 2 [.one (.cel (.pto cs))] = (2 ≤ cs.length, .one (.cel (.pto (cs.drop 2)))) :=
  Prod.ext (propext ⟨fun h => h.2, fun h => ⟨show 1 ≠ 0 by omega, h⟩⟩) rfl
@[go_sem] theorem rk_f_api_Rat_2 : fieldAV ⟨N, TT, fn, fz⟩ desc_api_Rat 2 [.one (.agg cs)] = (2 + 1 ≤ cs.length, ofCells false ((cs.drop 2).take 1)) := rfl
@[go_sem] theorem rk_pl_api_Rat_2 : placeOf ⟨N, TT, fn, fz⟩ flds_api_Rat 2 = some (2, 1) := rfl
@[go_sem] theorem rk_tt_api_Ball : Env.tt ⟨N, TT, fn, fz⟩ 26 = some ti_api_Ball := rfl
@[go_sem] theorem rk_desc_api_Ball : Env.desc ⟨N, TT, fn, fz⟩ 26 = desc_api_Ball := rfl
@[go_sem] theorem rk_sz_api_Ball : Env.sz ⟨N, TT, fn, fz⟩ 26 = 6 := rfl
@[go_sem] theorem rk_nl_api_Ball {x : Operand} : needsOf ⟨N, TT, fn, fz⟩ (.load 26 x) [.one (.cel (.ptr id off))] = [(id, off + 1), (id, off + 2), (id, off + 3), (id, off + 4), (id, off + 5), (id, off + 6)] := rfl
@[go_sem] theorem rk_ns_api_Ball {x y : Operand} {v : AV} : needsOf ⟨N, TT, fn, fz⟩ (.store 26 x y) [.one (.cel (.ptr id off)), v] = [(id, off + 1), (id, off + 2), (id, off + 3), (id, off + 4), (id, off + 5), (id, off + 6)] := rfl
@[go_sem] theorem rk_np_api_Ball {x : Operand} : needsOf ⟨N, TT, fn, fz⟩ (.load 26 x) [.one (.cel (.pto cs))] = [] := rfl
@[go_sem] theorem rk_load_api_Ball {c0 c1 c2 c3 c4 c5 : CV} : loadAV (some ti_api_Ball) [.one (.cel (.ptr id off))] [some (.cv c0), some (.cv c1), some (.cv c2), some (.cv c3), some (.cv c4), some (.cv c5)] = (True, .one (.agg [c0, c1, c2, c3, c4, c5])) := rfl
@[go_sem] theorem rk_lpto_api_Ball {c0 c1 c2 c3 c4 c5 : CV} : loadAV (some ti_api_Ball) [.one (.cel (.pto (c0 :: c1 :: c2 :: c3 :: c4 :: c5 :: cs)))] [] = (True, .one (.agg [c0.strip, c1.strip, c2.strip, c3.strip, c4.strip, c5.strip])) := by
  simp [loadAV, ti_api_Ball, ofCells]
@[go_sem] theorem rk_z_api_Ball : ti_api_Ball.z1 = z_api_Ball := rfl
@[go_sem] theorem rk_agg_api_Ball : ti_api_Ball.agg = true := rfl
@[go_sem] theorem rk_size_api_Ball : ti_api_Ball.size = 6 := rfl
@[go_sem] theorem rk_d_api_Ball : ti_api_Ball.desc = .struct flds_api_Ball := rfl
@[go_sem] theorem rk_all2_api_Ball : (flds_api_Ball.all fun f => (TT f.type).isSome) = true := by simp [flds_api_Ball, TT, ttOf]
@[go_sem] theorem rk_all_api_Ball : (flds_api_Ball.all fun f => (Env.tt ⟨N, TT, fn, fz⟩ f.type).isSome) = true := by simp [flds_api_Ball, TT, ttOf]
@[go_sem] theorem rk_fa_api_Ball_0 : fieldAddrAV ⟨N, TT, fn, fz⟩ desc_api_Ball 0 [.one (.cel (.ptr id off))] = (True, .one (.cel (.ptr id (off + 0)))) :=
  Prod.ext (eq_true (show 3 ≠ 0 by omega)) rfl
@[go_sem] theorem rk_fp_api_Ball_0 : fieldAddrAV ⟨N, TT, fn, fz⟩ desc_api_Ball 0 [.one (.cel (.pto cs))] = (0 ≤ cs.length, .one (.cel (.pto (cs.drop 0)))) :=
  Prod.ext (propext ⟨fun h => h.2, fun h => ⟨show 3 ≠ 0 by omega, h⟩⟩) rfl
@[go_sem] theorem rk_f_api_Ball_0 : fieldAV ⟨N, TT, fn, fz⟩ desc_api_Ball 0 [.one (.agg cs)] = (0 + 3 ≤ cs.length, ofCells true ((cs.drop 0).take 3)) := rfl
@[go_sem] theorem rk_pl_api_Ball_0 : placeOf ⟨N, TT, fn, fz⟩ flds_api_Ball 0 = some (0, 3) := rfl
@[go_sem] theorem rk_fa_api_Ball_1 : fieldAddrAV ⟨N, TT, fn, fz⟩ desc_api_Ball 1 [.one (.cel (.ptr id off))] = (True, .one (.cel (.ptr id (off + 3)))) :=
  Prod.ext (eq_true (show 3 ≠ 0 by omega)) rfl
@[go_sem] theorem rk_fp_api_Ball_1 : fieldAddrAV ⟨N, TT, fn, fz⟩ desc_api_Ball 1 [.one (.cel (.pto cs))] = (3 ≤ cs.length, .one (.cel (.pto (cs.drop 3)))) :=
  Prod.ext (propext ⟨fun h => h.2, fun h => ⟨show 3 ≠ 0 by omega, h⟩⟩) rfl
@[go_sem] theorem rk_f_api_Ball_1 : fieldAV ⟨N, TT, fn, fz⟩ desc_api_Ball 1 [.one (.agg cs)] = (3 + 3 ≤ cs.length, ofCells true ((cs.drop 3).take 3)) := rfl
@[go_sem] theorem rk_pl_api_Ball_1 : placeOf ⟨N, TT, fn, fz⟩ flds_api_Ball 1 = some (3, 3) := rfl
@[go_sem] theorem rk_tt_____uint32 : Env.tt ⟨N, TT, fn, fz⟩ 74 = some ti_____uint32 := rfl
@[go_sem] theorem rk_desc_____uint32 : Env.desc ⟨N, TT, fn, fz⟩ 74 = desc_____uint32 := rfl
@[go_sem] theorem rk_sz_____uint32 : Env.sz ⟨N, TT, fn, fz⟩ 74 = 1 := rfl
@[go_sem] theorem rk_nl_____uint32 {x : Operand} : needsOf ⟨N, TT, fn, fz⟩ (.load 74 x) [.one (.cel (.ptr id off))] = [(id, off + 1)] := rfl
@[go_sem] theorem rk_ns_____uint32 {x y : Operand} {v : AV} : needsOf ⟨N, TT, fn, fz⟩ (.store 74 x y) [.one (.cel (.ptr id off)), v] = [(id, off + 1)] := rfl
@[go_sem] theorem rk_np_____uint32 {x : Operand} : needsOf ⟨N, TT, fn, fz⟩ (.load 74 x) [.one (.cel (.pto cs))] = [] := rfl
@[go_sem] theorem rk_load_____uint32 {c0 : CV} : loadAV (some ti_____uint32) [.one (.cel (.ptr id off))] [some (.cv c0)] = (True, .one (.cel c0)) := rfl
@[go_sem] theorem rk_lpto_____uint32 {c0 : CV} : loadAV (some ti_____uint32) [.one (.cel (.pto (c0 :: cs)))] [] = (True, .one (.cel c0.strip)) := by
  simp [loadAV, ti_____uint32, ofCells]
@[go_sem] theorem rk_di_____uint32 : ti_____uint32.desc = desc_____uint32 := rfl
@[go_sem] theorem rk_z_____uint32 : ti_____uint32.z1 = z_____uint32 := rfl
@[go_sem] theorem rk_agg_____uint32 : ti_____uint32.agg = false := rfl
@[go_sem] theorem rk_size_____uint32 : ti_____uint32.size = 1 := rfl
@[go_sem] theorem rk_tt_fix_Span : Env.tt ⟨N, TT, fn, fz⟩ 58 = some ti_fix_Span := rfl
@[go_sem] theorem rk_desc_fix_Span : Env.desc ⟨N, TT, fn, fz⟩ 58 = desc_fix_Span := rfl
@[go_sem] theorem rk_sz_fix_Span : Env.sz ⟨N, TT, fn, fz⟩ 58 = 2 := rfl
@[go_sem] theorem rk_nl_fix_Span {x : Operand} : needsOf ⟨N, TT, fn, fz⟩ (.load 58 x) [.one (.cel (.ptr id off))] = [(id, off + 1), (id, off + 2)] := rfl
@[go_sem] theorem rk_ns_fix_Span {x y : Operand} {v : AV} : needsOf ⟨N, TT, fn, fz⟩ (.store 58 x y) [.one (.cel (.ptr id off)), v] = [(id, off + 1), (id, off + 2)] := rfl
@[go_sem] theorem rk_np_fix_Span {x : Operand} : needsOf ⟨N, TT, fn, fz⟩ (.load 58 x) [.one (.cel (.pto cs))] = [] := rfl
@[go_sem] theorem rk_load_fix_Span {c0 c1 : CV} : loadAV (some ti_fix_Span) [.one (.cel (.ptr id off))] [some (.cv c0), some (.cv c1)] = (True, .one (.agg [c0, c1])) := rfl
@[go_sem] theorem rk_lpto_fix_Span {c0 c1 : CV} : loadAV (some ti_fix_Span) [.one (.cel (.pto (c0 :: c1 :: cs)))] [] = (True, .one (.agg [c0.strip, c1.strip])) := by
  simp [loadAV, ti_fix_Span, ofCells]
@[go_sem] theorem rk_z_fix_Span : ti_fix_Span.z1 = z_fix_Span := rfl
@[go_sem] theorem rk_agg_fix_Span : ti_fix_Span.agg = true := rfl
@[go_sem] theorem rk_size_fix_Span : ti_fix_Span.size = 2 := rfl
@[go_sem] theorem rk_d_fix_Span : ti_fix_Span.desc = .struct flds_fix_Span := rfl
@[go_sem] theorem rk_all2_fix_Span : (flds_fix_Span.all fun f => (TT f.type).isSome) = true := by simp [flds_fix_Span, TT, ttOf]
@[go_sem] theorem rk_all_fix_Span : (flds_fix_Span.all fun f => (Env.tt ⟨N, TT, fn, fz⟩ f.type).isSome) = true := by simp [flds_fix_Span, TT, ttOf]
@[go_sem] theorem rk_fa_fix_Span_0 : fieldAddrAV ⟨N, TT, fn, fz⟩ desc_fix_Span 0 [.one (.cel (.ptr id off))] = (True, .one (.cel (.ptr id (off + 0)))) :=
  Prod.ext (eq_true (show 1 ≠ 0 by omega)) rfl
@[go_sem] theorem rk_fp_fix_Span_0 : fieldAddrAV ⟨N, TT, fn, fz⟩ desc_fix_Span 0 [.one (.cel (.pto cs))] = (0 ≤ cs.length, .one (.cel (.pto (cs.drop 0)))) :=
  Prod.ext (propext ⟨fun h => h.2, fun h => ⟨show 1 ≠ 0 by omega, h⟩⟩) rfl
@[go_sem] theorem rk_f_fix_Span_0 : fieldAV ⟨N, TT, fn, fz⟩ desc_fix_Span 0 [.one (.agg cs)] = (0 + 1 ≤ cs.length, ofCells false ((cs.drop 0).take 1)) := rfl
@[go_sem] theorem rk_pl_fix_Span_0 : placeOf ⟨N, TT, fn, fz⟩ flds_fix_Span 0 = some (0, 1) := rfl
@[go_sem] theorem rk_fa_fix_Span_1 : fieldAddrAV ⟨N, TT, fn, fz⟩ desc_fix_Span 1 [.one (.cel (.ptr id off))] = (True, .one (.cel (.ptr id (off + 1)))) :=
  Prod.ext (eq_true (show 1 ≠ 0 by omega)) rfl
@[go_sem] theorem rk_fp_fix_Span_1 : fieldAddrAV ⟨N, TT, fn, fz⟩ desc_fix_Span 1 [.one (.cel (.pto cs))] = (1 ≤ cs.length, .one (.cel (.pto (cs.drop 1)))) :=
  Prod.ext (propext ⟨fun h => h.2, fun h => ⟨show 1 ≠ 0 by omega, h⟩⟩) rfl
@[go_sem] theorem rk_f_fix_Span_1 : fieldAV ⟨N, TT, fn, fz⟩ desc_fix_Span 1 [.one (.agg cs)] = (1 + 1 ≤ cs.length, ofCells false ((cs.drop 1).take 1)) := rfl
@[go_sem] theorem rk_pl_fix_Span_1 : placeOf ⟨N, TT, fn, fz⟩ flds_fix_Span 1 = some (1, 1) := rfl
@[go_sem] theorem rk_tt___fix_Span : Env.tt ⟨N, TT, fn, fz⟩ 55 = some ti___fix_Span := rfl
@[go_sem] theorem rk_desc___fix_Span : Env.desc ⟨N, TT, fn, fz⟩ 55 = desc___fix_Span := rfl
@[go_sem] theorem rk_sz___fix_Span : Env.sz ⟨N, TT, fn, fz⟩ 55 = 1 := rfl
@[go_sem] theorem rk_nl___fix_Span {x : Operand} : needsOf ⟨N, TT, fn, fz⟩ (.load 55 x) [.one (.cel (.ptr id off))] = [(id, off + 1)] := rfl
@[go_sem] theorem rk_ns___fix_Span {x y : Operand} {v : AV} : needsOf ⟨N, TT, fn, fz⟩ (.store 55 x y) [.one (.cel (.ptr id off)), v] = [(id, off + 1)] := rfl
@[go_sem] theorem rk_np___fix_Span {x : Operand} : needsOf ⟨N, TT, fn, fz⟩ (.load 55 x) [.one (.cel (.pto cs))] = [] := rfl
@[go_sem] theorem rk_load___fix_Span {c0 : CV} : loadAV (some ti___fix_Span) [.one (.cel (.ptr id off))] [some (.cv c0)] = (True, .one (.cel c0)) := rfl
@[go_sem] theorem rk_lpto___fix_Span {c0 : CV} : loadAV (some ti___fix_Span) [.one (.cel (.pto (c0 :: cs)))] [] = (True, .one (.cel c0.strip)) := by
  simp [loadAV, ti___fix_Span, ofCells]
@[go_sem] theorem rk_di___fix_Span : ti___fix_Span.desc = desc___fix_Span := rfl
@[go_sem] theorem rk_z___fix_Span : ti___fix_Span.z1 = z___fix_Span := rfl
@[go_sem] theorem rk_agg___fix_Span : ti___fix_Span.agg = false := rfl
@[go_sem] theorem rk_size___fix_Span : ti___fix_Span.size = 1 := rfl
@[go_sem] theorem rk_tt_vernierref4_Int : Env.tt ⟨N, TT, fn, fz⟩ 39 = some ti_vernierref4_Int := rfl
@[go_sem] theorem rk_desc_vernierref4_Int : Env.desc ⟨N, TT, fn, fz⟩ 39 = desc_vernierref4_Int := rfl
@[go_sem] theorem rk_sz_vernierref4_Int : Env.sz ⟨N, TT, fn, fz⟩ 39 = 2 := rfl
@[go_sem] theorem rk_nl_vernierref4_Int {x : Operand} : needsOf ⟨N, TT, fn, fz⟩ (.load 39 x) [.one (.cel (.ptr id off))] = [(id, off + 1), (id, off + 2)] := rfl
@[go_sem] theorem rk_ns_vernierref4_Int {x y : Operand} {v : AV} : needsOf ⟨N, TT, fn, fz⟩ (.store 39 x y) [.one (.cel (.ptr id off)), v] = [(id, off + 1), (id, off + 2)] := rfl
@[go_sem] theorem rk_np_vernierref4_Int {x : Operand} : needsOf ⟨N, TT, fn, fz⟩ (.load 39 x) [.one (.cel (.pto cs))] = [] := rfl
@[go_sem] theorem rk_load_vernierref4_Int {c0 c1 : CV} : loadAV (some ti_vernierref4_Int) [.one (.cel (.ptr id off))] [some (.cv c0), some (.cv c1)] = (True, .one (.agg [c0, c1])) := rfl
@[go_sem] theorem rk_lpto_vernierref4_Int {c0 c1 : CV} : loadAV (some ti_vernierref4_Int) [.one (.cel (.pto (c0 :: c1 :: cs)))] [] = (True, .one (.agg [c0.strip, c1.strip])) := by
  simp [loadAV, ti_vernierref4_Int, ofCells]
@[go_sem] theorem rk_z_vernierref4_Int : ti_vernierref4_Int.z1 = z_vernierref4_Int := rfl
@[go_sem] theorem rk_agg_vernierref4_Int : ti_vernierref4_Int.agg = true := rfl
@[go_sem] theorem rk_size_vernierref4_Int : ti_vernierref4_Int.size = 2 := rfl
@[go_sem] theorem rk_d_vernierref4_Int : ti_vernierref4_Int.desc = .struct flds_vernierref4_Int := rfl
@[go_sem] theorem rk_all2_vernierref4_Int : (flds_vernierref4_Int.all fun f => (TT f.type).isSome) = true := by simp [flds_vernierref4_Int, TT, ttOf]
@[go_sem] theorem rk_all_vernierref4_Int : (flds_vernierref4_Int.all fun f => (Env.tt ⟨N, TT, fn, fz⟩ f.type).isSome) = true := by simp [flds_vernierref4_Int, TT, ttOf]
@[go_sem] theorem rk_fa_vernierref4_Int_0 : fieldAddrAV ⟨N, TT, fn, fz⟩ desc_vernierref4_Int 0 [.one (.cel (.ptr id off))] = (True, .one (.cel (.ptr id (off + 0)))) :=
  Prod.ext (eq_true (show 1 ≠ 0 by omega)) rfl
@[go_sem] theorem rk_fp_vernierref4_Int_0 : fieldAddrAV ⟨N, TT, fn, fz⟩ desc_vernierref4_Int 0 [.one (.cel (.pto cs))] = (0 ≤ cs.length, .one (.cel (.pto (cs.drop 0)))) :=
  Prod.ext (propext ⟨fun h => h.2, fun h => ⟨show 1 ≠ 0 by omega, h⟩⟩) rfl
@[go_sem] theorem rk_f_vernierref4_Int_0 : fieldAV ⟨N, TT, fn, fz⟩ desc_vernierref4_Int 0 [.one (.agg cs)] = (0 + 1 ≤ cs.length, ofCells false ((cs.drop 0).take 1)) := rfl
@[go_sem] theorem rk_pl_vernierref4_Int_0 : placeOf ⟨N, TT, fn, fz⟩ flds_vernierref4_Int 0 = some (0, 1) := rfl
@[go_sem] theorem rk_fa_vernierref4_Int_1 : fieldAddrAV ⟨N, TT, fn, fz⟩ desc_vernierref4_Int 1 [.one (.cel (.ptr id off))] = (True, .one (.cel (.ptr id (off + 1)))) :=
  Prod.ext (eq_true (show 1 ≠ 0 by omega)) rfl
@[go_sem] theorem rk_fp_vernierref4_Int_1 : fieldAddrAV ⟨N, TT, fn, fz⟩ desc_vernierref4_Int 1 [.one (.cel (.pto cs))] = (1 ≤ cs.length, .one (.cel (.pto (cs.drop 1)))) :=
  Prod.ext (propext ⟨fun h => h.2, fun h => ⟨show 1 ≠ 0 by omega, h⟩⟩) rfl
@[go_sem] theorem rk_f_vernierref4_Int_1 : fieldAV ⟨N, TT, fn, fz⟩ desc_vernierref4_Int 1 [.one (.agg cs)] = (1 + 1 ≤ cs.length, ofCells false ((cs.drop 1).take 1)) := rfl
@[go_sem] theorem rk_pl_vernierref4_Int_1 : placeOf ⟨N, TT, fn, fz⟩ flds_vernierref4_Int 1 = some (1, 1) := rfl
@[go_sem] theorem rk_tt_vernierref4_Iv : Env.tt ⟨N, TT, fn, fz⟩ 41 = some ti_vernierref4_Iv := rfl
@[go_sem] theorem rk_desc_vernierref4_Iv : Env.desc ⟨N, TT, fn, fz⟩ 41 = desc_vernierref4_Iv := rfl
@[go_sem] theorem rk_sz_vernierref4_Iv : Env.sz ⟨N, TT, fn, fz⟩ 41 = 4 := rfl
@[go_sem] theorem rk_nl_vernierref4_Iv {x : Operand} : needsOf ⟨N, TT, fn, fz⟩ (.load 41 x) [.one (.cel (.ptr id off))] = [(id, off + 1), (id, off + 2), (id, off + 3), (id, off + 4)] := rfl
@[go_sem] theorem rk_ns_vernierref4_Iv {x y : Operand} {v : AV} : needsOf ⟨N, TT, fn, fz⟩ (.store 41 x y) [.one (.cel (.ptr id off)), v] = [(id, off + 1), (id, off + 2), (id, off + 3), (id, off + 4)] := rfl
@[go_sem] theorem rk_np_vernierref4_Iv {x : Operand} : needsOf ⟨N, TT, fn, fz⟩ (.load 41 x) [.one (.cel (.pto cs))] = [] := rfl
@[go_sem] theorem rk_load_vernierref4_Iv {c0 c1 c2 c3 : CV} : loadAV (some ti_vernierref4_Iv) [.one (.cel (.ptr id off))] [some (.cv c0), some (.cv c1), some (.cv c2), some (.cv c3)] = (True, .one (.agg [c0, c1, c2, c3])) := rfl
@[go_sem] theorem rk_lpto_vernierref4_Iv {c0 c1 c2 c3 : CV} : loadAV (some ti_vernierref4_Iv) [.one (.cel (.pto (c0 :: c1 :: c2 :: c3 :: cs)))] [] = (True, .one (.agg [c0.strip, c1.strip, c2.strip, c3.strip])) := by
  simp [loadAV, ti_vernierref4_Iv, ofCells]
@[go_sem] theorem rk_z_vernierref4_Iv : ti_vernierref4_Iv.z1 = z_vernierref4_Iv := rfl
@[go_sem] theorem rk_agg_vernierref4_Iv : ti_vernierref4_Iv.agg = true := rfl
@[go_sem] theorem rk_size_vernierref4_Iv : ti_vernierref4_Iv.size = 4 := rfl
@[go_sem] theorem rk_d_vernierref4_Iv : ti_vernierref4_Iv.desc = .struct flds_vernierref4_Iv := rfl
@[go_sem] theorem rk_all2_vernierref4_Iv : (flds_vernierref4_Iv.all fun f => (TT f.type).isSome) = true := by simp [flds_vernierref4_Iv, TT, ttOf]
@[go_sem] theorem rk_all_vernierref4_Iv : (flds_vernierref4_Iv.all fun f => (Env.tt ⟨N, TT, fn, fz⟩ f.type).isSome) = true := by simp [flds_vernierref4_Iv, TT, ttOf]
@[go_sem] theorem rk_fa_vernierref4_Iv_0 : fieldAddrAV ⟨N, TT, fn, fz⟩ desc_vernierref4_Iv 0 [.one (.cel (.ptr id off))] = (True, .one (.cel (.ptr id (off + 0)))) :=
  Prod.ext (eq_true (show 2 ≠ 0 by omega)) rfl
@[go_sem] theorem rk_fp_vernierref4_Iv_0 : fieldAddrAV ⟨N, TT, fn, fz⟩ desc_vernierref4_Iv 0 [.one (.cel (.pto cs))] = (0 ≤ cs.length, .one (.cel (.pto (cs.drop 0)))) :=
  Prod.ext (propext ⟨fun h => h.2, fun h => ⟨show 2 ≠ 0 by omega, h⟩⟩) rfl
@[go_sem] theorem rk_f_vernierref4_Iv_0 : fieldAV ⟨N, TT, fn, fz⟩ desc_vernierref4_Iv 0 [.one (.agg cs)] = (0 + 2 ≤ cs.length, ofCells true ((cs.drop 0).take 2)) := rfl
@[go_sem] theorem rk_pl_vernierref4_Iv_0 : placeOf ⟨N, TT, fn, fz⟩ flds_vernierref4_Iv 0 = some (0, 2) := rfl
@[go_sem] theorem rk_fa_vernierref4_Iv_1 : fieldAddrAV ⟨N, TT, fn, fz⟩ desc_vernierref4_Iv 1 [.one (.cel (.ptr id off))] = (True, .one (.cel (.ptr id (off + 2)))) :=
  Prod.ext (eq_true (show 2 ≠ 0 by omega)) rfl
@[go_sem] theorem rk_fp_vernierref4_Iv_1 : fieldAddrAV ⟨N, TT, fn, fz⟩ desc_vernierref4_Iv 1 [.one (.cel (.pto cs))] = (2 ≤ cs.length, .one (.cel (.pto (cs.drop 2)))) :=
  Prod.ext (propext ⟨fun h => h.2, fun h => ⟨show 2 ≠ 0 by omega, h⟩⟩) rfl
@[go_sem] theorem rk_f_vernierref4_Iv_1 : fieldAV ⟨N, TT, fn, fz⟩ desc_vernierref4_Iv 1 [.one (.agg cs)] = (2 + 2 ≤ cs.length, ofCells true ((cs.drop 2).take 2)) := rfl
@[go_sem] theorem rk_pl_vernierref4_Iv_1 : placeOf ⟨N, TT, fn, fz⟩ flds_vernierref4_Iv 1 = some (2, 2) := rfl
@[go_sem] theorem rk_tt___vernierref4_Int : Env.tt ⟨N, TT, fn, fz⟩ 91 = some ti___vernierref4_Int := rfl
@[go_sem] theorem rk_desc___vernierref4_Int : Env.desc ⟨N, TT, fn, fz⟩ 91 = desc___vernierref4_Int := rfl
@[go_sem] theorem rk_sz___vernierref4_Int : Env.sz ⟨N, TT, fn, fz⟩ 91 = 1 := rfl
@[go_sem] theorem rk_nl___vernierref4_Int {x : Operand} : needsOf ⟨N, TT, fn, fz⟩ (.load 91 x) [.one (.cel (.ptr id off))] = [(id, off + 1)] := rfl
@[go_sem] theorem rk_ns___vernierref4_Int {x y : Operand} {v : AV} : needsOf ⟨N, TT, fn, fz⟩ (.store 91 x y) [.one (.cel (.ptr id off)), v] = [(id, off + 1)] := rfl
@[go_sem] theorem rk_np___vernierref4_Int {x : Operand} : needsOf ⟨N, TT, fn, fz⟩ (.load 91 x) [.one (.cel (.pto cs))] = [] := rfl
@[go_sem] theorem rk_load___vernierref4_Int {c0 : CV} : loadAV (some ti___vernierref4_Int) [.one (.cel (.ptr id off))] [some (.cv c0)] = (True, .one (.cel c0)) := rfl
@[go_sem] theorem rk_lpto___vernierref4_Int {c0 : CV} : loadAV (some ti___vernierref4_Int) [.one (.cel (.pto (c0 :: cs)))] [] = (True, .one (.cel c0.strip)) := by
  simp [loadAV, ti___vernierref4_Int, ofCells]
@[go_sem] theorem rk_di___vernierref4_Int : ti___vernierref4_Int.desc = desc___vernierref4_Int := rfl
@[go_sem] theorem rk_z___vernierref4_Int : ti___vernierref4_Int.z1 = z___vernierref4_Int := rfl
@[go_sem] theorem rk_agg___vernierref4_Int : ti___vernierref4_Int.agg = false := rfl
@[go_sem] theorem rk_size___vernierref4_Int : ti___vernierref4_Int.size = 1 := rfl
end
theorem mixed : Tryz.prog.follows .mixedOrders = true := by kernel_rfl
section
variable {P : Program} {f K : Nat}
/-- how a call of the function f begins -/
abbrev CallOk (P : Program) (f : Nat) : Prop := ∀ (args : Array Value) (w : World), (callFunc f args).run P w = .ok (.enter f args) w
theorem All2.args1 {x : AV} {avs : List AV} {X : Nat → Nat → Prop} {w : World} {vs : List Value} (hle : argsLe avs [x]) (h : All2 (fun a v => AV.P X w a v) avs vs) : ∃ v, vs = [v] ∧ x.P X w v := (hle X w vs h).one
theorem All2.args2 {x y : AV} {avs : List AV} {X : Nat → Nat → Prop} {w : World} {vs : List Value} (hle : argsLe avs [x, y]) (h : All2 (fun a v => AV.P X w a v) avs vs) : ∃ u v, vs = [u, v] ∧ x.P X w u ∧ y.P X w v := (hle X w vs h).two
theorem All2.args3 {x y z : AV} {avs : List AV} {X : Nat → Nat → Prop} {w : World} {vs : List Value} (hle : argsLe avs [x, y, z]) (h : All2 (fun a v => AV.P X w a v) avs vs) : ∃ u v t, vs = [u, v, t] ∧ x.P X w u ∧ y.P X w v ∧ z.P X w t := (hle X w vs h).three
/-- a contract of one argument, told -/
theorem told1 {α : Type} {A : Arg α} {pre : α → Prop} {r : α → AV} (hc : CallOk P f) (hflat : ∀ a, (r a).strip = r a)
    (h : ∀ a X w v, pre a → (∀ b o, X b o → b < w.heap.size) → (A.un a).P X w v → Calls P f #[v] w fun e w' => ∃ u, e = .returned u ∧ (r a).P X w' u ∧ Below w.heap.size w w') : Sound P f (den1 A pre r) := by
  refine ⟨hc, fun avs X w vs hd hX hvs => ?_, fun avs hd => ?_⟩
  · obtain ⟨a, h1, h2, e⟩ := den1_inv hd
    obtain ⟨v, rfl, hv⟩ := hvs.args1 h1
    rw [e]
    exact h a X w v h2 hX hv
  · obtain ⟨a, _, _, e⟩ := den1_inv hd; rw [e]; exact hflat a
theorem told2 {α β : Type} {A : Arg α} {B : Arg β} {pre : α → β → Prop} {r : α → β → AV} (hc : CallOk P f) (hflat : ∀ a b, (r a b).strip = r a b)
    (h : ∀ a b X w u v, pre a b → (∀ b o, X b o → b < w.heap.size) → (A.un a).P X w u → (B.un b).P X w v → Calls P f #[u, v] w fun e w' => ∃ u, e = .returned u ∧ (r a b).P X w' u ∧ Below w.heap.size w w') : Sound P f (den2 A B pre r) := by
  refine ⟨hc, fun avs X w vs hd hX hvs => ?_, fun avs hd => ?_⟩
  · obtain ⟨a, b, h1, h2, e⟩ := den2_inv hd
    obtain ⟨u, v, rfl, hu, hv⟩ := hvs.args2 h1
    rw [e]
    exact h a b X w u v h2 hX hu hv
  · obtain ⟨a, b, _, _, e⟩ := den2_inv hd; rw [e]; exact hflat a b
theorem told3 {α β γ : Type} {A : Arg α} {B : Arg β} {C : Arg γ} {pre : α → β → γ → Prop} {r : α → β → γ → AV} (hc : CallOk P f) (hflat : ∀ a b c, (r a b c).strip = r a b c)
    (h : ∀ a b c X w u v t, pre a b c → (∀ b o, X b o → b < w.heap.size) → (A.un a).P X w u → (B.un b).P X w v → (C.un c).P X w t → Calls P f #[u, v, t] w fun e w' => ∃ u, e = .returned u ∧ (r a b c).P X w' u ∧ Below w.heap.size w w') : Sound P f (den3 A B C pre r) := by
  refine ⟨hc, fun avs X w vs hd hX hvs => ?_, fun avs hd => ?_⟩
  · obtain ⟨a, b, c, h1, h2, e⟩ := den3_inv hd
    obtain ⟨u, v, t, rfl, hu, hv, ht⟩ := hvs.args3 h1
    rw [e]
    exact h a b c X w u v t h2 hX hu hv ht
  · obtain ⟨a, b, c, _, _, e⟩ := den3_inv hd; rw [e]; exact hflat a b c
theorem lim_nt {X : Nat → Nat → Prop} {w : World} {v : Value} {xs : List Nat} (h : (limV xs).P X w v) : Nt 0 w v xs := limG_nt (by simpa only [limV, AV.P, A1.P, CV.P] using h)
theorem nat_P {X : Nat → Nat → Prop} {w w' : World} {v : Value} {n : Nat} (h : Nt w.heap.size w' v (limbs n)) (hX : ∀ b o, X b o → b < w.heap.size) : (natV n).P X w' v := by
  have := nt_limG h hX
  simpa only [natV, limV, AV.P, A1.P, CV.P] using this
theorem retRat {X : Nat → Nat → Prop} {w : World} {args : Array Value} {q : Rat} (hX : ∀ b o, X b o → b < w.heap.size) (h : Calls P f args w (RetRat q w)) :
    Calls P f args w fun e w' => ∃ u, e = .returned u ∧ (ratV (cr q)).P X w' u ∧ Below w.heap.size w w' :=
  h.mono fun _ _ ⟨v, he, h1, h2⟩ => ⟨v, he, ratC_P h1 hX, h2⟩
theorem retNat {X : Nat → Nat → Prop} {w : World} {args : Array Value} {n : Nat} (hX : ∀ b o, X b o → b < w.heap.size) (h : Calls P f args w (RetNat n w)) :
    Calls P f args w fun e w' => ∃ u, e = .returned u ∧ (natV n).P X w' u ∧ Below w.heap.size w w' :=
  h.mono fun _ _ ⟨v, he, h1, h2⟩ => ⟨v, he, nat_P h1 hX, h2⟩
theorem retFlat {X : Nat → Nat → Prop} {w : World} {args : Array Value} {v : Value} {x : AV} (hx : ∀ w', x.P X w' v) (h : Calls P f args w fun e w' => e = .returned v ∧ Below w.heap.size w w') :
    Calls P f args w fun e w' => ∃ u, e = .returned u ∧ x.P X w' u ∧ Below w.heap.size w w' :=
  h.mono fun _ w' ⟨he, h2⟩ => ⟨v, he, hx w', h2⟩
def ratOkV (r : RR) (b : Bool) : AV := .tup [.agg (ratCells r), .cel (.bool b)]
def natOkV (n : Nat) (b : Bool) : AV := .tup [.cel (.lim none (limbs n)), .cel (.bool b)]
def divV (m n : Nat) : AV := .tup [.cel (.lim none (limbs (m / n))), .cel (.lim none (limbs (if n = 0 then 0 else m % n))), .cel (.bool (decide (n ≠ 0)))]
theorem retNatOk {X : Nat → Nat → Prop} {w : World} {args : Array Value} {n : Nat} {b : Bool} (hX : ∀ b o, X b o → b < w.heap.size) (h : Calls P f args w (RetNatOk n b w)) :
    Calls P f args w fun e w' => ∃ u, e = .returned u ∧ (natOkV n b).P X w' u ∧ Below w.heap.size w w' :=
  h.mono fun _ _ ⟨v, he, h1, h2⟩ => ⟨_, he, ⟨[v, .bool b], rfl, .cons (nat_P h1 hX) (.cons rfl .nil)⟩, h2⟩
theorem retDiv {X : Nat → Nat → Prop} {w : World} {args : Array Value} {m n : Nat} (hX : ∀ b o, X b o → b < w.heap.size) (h : Calls P f args w (RetDivMod m n w)) :
    Calls P f args w fun e w' => ∃ u, e = .returned u ∧ (divV m n).P X w' u ∧ Below w.heap.size w w' :=
  h.mono fun _ _ ⟨v, u, he, h1, h2, h3⟩ => ⟨_, he, ⟨[v, u, .bool (decide (n ≠ 0))], rfl, .cons (nat_P h1 hX) (.cons (nat_P h2 hX) (.cons rfl .nil))⟩, h3⟩
def shiftN (m : Nat) (n : Int) : Nat := if 0 ≤ n then m * 2 ^ n.toNat else m / 2 ^ (-n).toNat
end
def d_rat_Norm : Den := den1 aRat (fun a => a.sz ≤ 1000000000000) fun a => ratV (cr (a.q))
theorem s_rat_Norm : Sound Tryz.prog 27 d_rat_Norm :=
  told1 Tryz.call27 (fun _ => rfl) fun a _ w u h hX hu => retRat hX (ratNorm w u a.q (rat_R hu h))
def d_rat_Of : Den := den3 aBool aLim aLim (fun _ n d => n.length ≤ 1000000000000 ∧ d.length ≤ 1000000000000) fun s n d => ratV (cr (qv s (val n) (val d)))
theorem s_rat_Of : Sound Tryz.prog 56 d_rat_Of :=
  told3 Tryz.call56 (fun _ _ _ => rfl) fun s n d _ w u v t h hX hu hv ht => by
    have e : u = .bool s := hu
    subst e
    exact retRat hX (ratOf w s v t n d 0 0 (lim_nt hv) (lim_nt ht) h.1 h.2)
def d_rat_Neg : Den := den1 aRat (fun a => a.sz ≤ 1000000000000) fun a => ratV (cr (-a.q))
theorem s_rat_Neg : Sound Tryz.prog 35 d_rat_Neg :=
  told1 Tryz.call35 (fun _ => rfl) fun a _ w u h hX hu => retRat hX (ratNeg w u a.q (rat_R hu h))
def d_rat_Cmp : Den := den2 aRat aRat (fun a b => a.sz ≤ 100000000000 ∧ b.sz ≤ 100000000000) fun a b => intV (cmpQ a.q b.q)
theorem s_rat_Cmp : Sound Tryz.prog 28 d_rat_Cmp :=
  told2 Tryz.call28 (fun _ _ => rfl) fun a b _ w u v h _ hu hv => retFlat (fun _ => rfl) (ratCmp w u v a.q b.q (rat_R hu h.1) (rat_R hv h.2))
def d_rat_Zero : Den := den1 aRat (fun a => a.sz ≤ 1000000000000) fun a => boolV (decide (a.q = 0))
theorem s_rat_Zero : Sound Tryz.prog 31 d_rat_Zero :=
  told1 Tryz.call31 (fun _ => rfl) fun a _ w u h _ hu => retFlat (fun _ => rfl) (ratZero w u a.q (rat_R hu h))
def d_rat_Int : Den := den1 aInt (fun n => -9223372036854775808 ≤ n ∧ n < 9223372036854775808) fun n => ratV (cr (n : Rat))
theorem s_rat_Int : Sound Tryz.prog 29 d_rat_Int :=
  told1 Tryz.call29 (fun _ => rfl) fun n _ w u h hX hu => by
    have e : u = .int .i64 n := hu
    subst e
    exact retRat hX (ratInt w n h.1 h.2)
def d_ref2_Norm : Den := den1 aRat (fun a => a.sz ≤ 100000000000) fun a => ratV (cr (a.q))
theorem s_ref2_Norm : Sound Tryz.prog 39 d_ref2_Norm :=
  told1 Tryz.call39 (fun _ => rfl) fun a _ w u h hX hu => retRat hX (r2Norm w u a.q (rat_R hu h))
def d_ref2_Of : Den := den3 aBool aLim aLim (fun _ n d => n.length ≤ 100000000000 ∧ d.length ≤ 100000000000) fun s n d => ratV (cr (qv s (val n) (val d)))
theorem s_ref2_Of : Sound Tryz.prog 24 d_ref2_Of :=
  told3 Tryz.call24 (fun _ _ _ => rfl) fun s n d _ w u v t h hX hu hv ht => by
    have e : u = .bool s := hu
    subst e
    exact retRat hX (r2Of w s v t n d 0 0 (lim_nt hv) (lim_nt ht) h.1 h.2)
def d_ref2_Neg : Den := den1 aRat (fun a => a.sz ≤ 100000000000) fun a => ratV (cr (-a.q))
theorem s_ref2_Neg : Sound Tryz.prog 43 d_ref2_Neg :=
  told1 Tryz.call43 (fun _ => rfl) fun a _ w u h hX hu => retRat hX (r2Neg w u a.q (rat_R hu h))
def d_ref2_Zero : Den := den1 aRat (fun a => a.sz ≤ 100000000000) fun a => boolV (decide (a.q = 0))
theorem s_ref2_Zero : Sound Tryz.prog 14 d_ref2_Zero :=
  told1 Tryz.call14 (fun _ => rfl) fun a _ w u h _ hu => retFlat (fun _ => rfl) (r2Zero w u a.q (rat_R hu h))
def d_nat_Of : Den := den1 aU64 (fun n => 0 ≤ n ∧ n < 18446744073709551616) fun n => natV n.toNat
theorem s_nat_Of : Sound Tryz.prog 58 d_nat_Of :=
  told1 Tryz.call58 (fun _ => rfl) fun n _ w u h hX hu => by
    obtain ⟨m, rfl⟩ := Int.eq_ofNat_of_zero_le h.1
    have e : u = .int .u64 (m : Int) := hu
    subst e
    exact retNat hX (natOf w m (by omega))
def d_nat_Cmp : Den := den2 aLim aLim (fun a b => a.length ≤ 8000000000000 ∧ b.length ≤ 8000000000000) fun a b => intV (cmpI (val a) (val b))
theorem s_nat_Cmp : Sound Tryz.prog 111 d_nat_Cmp :=
  told2 Tryz.call111 (fun _ _ => rfl) fun a b _ w u v h _ hu hv => retFlat (fun _ => rfl) (natCmp w u v a b 0 0 (lim_nt hu) (lim_nt hv) h.1 h.2)
def d_nat_Add : Den := den2 aLim aLim (fun a b => a.length ≤ 1000000000000 ∧ b.length ≤ 1000000000000) fun a b => natV (val a + val b)
theorem s_nat_Add : Sound Tryz.prog 63 d_nat_Add :=
  told2 Tryz.call63 (fun _ _ => rfl) fun a b _ w u v h hX hu hv => retNat hX (natAdd w u v a b (lim_nt hu) (lim_nt hv) h.1 h.2)
def d_nat_Sub : Den := den2 aLim aLim (fun a b => a.length ≤ 1000000000000 ∧ b.length ≤ 1000000000000) fun a b => natOkV (val a - val b) (decide (val b ≤ val a))
theorem s_nat_Sub : Sound Tryz.prog 109 d_nat_Sub :=
  told2 Tryz.call109 (fun _ _ => rfl) fun a b _ w u v h hX hu hv => retNatOk hX (natSub w u v a b 0 0 (lim_nt hu) (lim_nt hv) h.1 h.2)
def d_nat_Mul : Den := den2 aLim aLim (fun a b => a.length ≤ 1000000000000 ∧ b.length ≤ 1000000000000) fun a b => natV (val a * val b)
theorem s_nat_Mul : Sound Tryz.prog 70 d_nat_Mul :=
  told2 Tryz.call70 (fun _ _ => rfl) fun a b _ w u v h hX hu hv => retNat hX (natMul w u v a b 0 0 (lim_nt hu) (lim_nt hv) h.1 h.2)
def d_nat_DivMod : Den := den2 aLim aLim (fun a b => a.length ≤ 1000000000000 ∧ b.length ≤ 1000000000000) fun a b => divV (val a) (val b)
theorem s_nat_DivMod : Sound Tryz.prog 91 d_nat_DivMod :=
  told2 Tryz.call91 (fun _ _ => rfl) fun a b _ w u v h hX hu hv => retDiv hX (natDivMod w u v a b 0 0 (lim_nt hu) (lim_nt hv) h.1 h.2)
def d_nat_Shift : Den := den2 aLim aInt (fun a n => a.length ≤ 7000000000000 ∧ -4096 ≤ n ∧ n ≤ 4096) fun a n => natV (shiftN (val a) n)
theorem s_nat_Shift : Sound Tryz.prog 98 d_nat_Shift :=
  told2 Tryz.call98 (fun _ _ => rfl) fun a n _ w u v h hX hu hv => by
    have e : v = .int .i64 n := hv
    subst e
    obtain ⟨hL, h1, h2⟩ := h
    unfold shiftN
    by_cases hn : 0 ≤ n
    · obtain ⟨m, rfl⟩ := Int.eq_ofNat_of_zero_le hn
      rw [if_pos hn]
      exact retNat hX (natShiftUp w u a 0 m (lim_nt hu) (by omega) (by omega))
    · obtain ⟨m, hm⟩ := Int.eq_ofNat_of_zero_le (show 0 ≤ -n by omega)
      have hm' : n = -(m : Int) := by omega
      subst hm'
      rw [if_neg hn, show (- -(m : Int)).toNat = m by omega]
      exact retNat hX (natShiftDown w u a 0 m (lim_nt hu) (by omega) (by omega) (by omega))
def d_ref1_Of : Den := den1 aU64 (fun n => 0 ≤ n ∧ n < 18446744073709551616) fun n => natV n.toNat
theorem s_ref1_Of : Sound Tryz.prog 40 d_ref1_Of :=
  told1 Tryz.call40 (fun _ => rfl) fun n _ w u h hX hu => by
    obtain ⟨m, rfl⟩ := Int.eq_ofNat_of_zero_le h.1
    have e : u = .int .u64 (m : Int) := hu
    subst e
    exact retNat hX (refOf w m (by omega))
def d_ref1_Cmp : Den := den2 aLim aLim (fun a b => a.length ≤ 8000000000000 ∧ b.length ≤ 8000000000000) fun a b => intV (cmpI (val a) (val b))
theorem s_ref1_Cmp : Sound Tryz.prog 102 d_ref1_Cmp :=
  told2 Tryz.call102 (fun _ _ => rfl) fun a b _ w u v h _ hu hv => retFlat (fun _ => rfl) (refCmp w u v a b 0 0 (lim_nt hu) (lim_nt hv) h.1 h.2)
def d_ref1_Add : Den := den2 aLim aLim (fun a b => a.length ≤ 1000000000000 ∧ b.length ≤ 1000000000000) fun a b => natV (val a + val b)
theorem s_ref1_Add : Sound Tryz.prog 101 d_ref1_Add :=
  told2 Tryz.call101 (fun _ _ => rfl) fun a b _ w u v h hX hu hv => retNat hX (refAdd w u v a b 0 0 (lim_nt hu) (lim_nt hv) h.1 h.2)
def d_ref1_Sub : Den := den2 aLim aLim (fun a b => a.length ≤ 1000000000000 ∧ b.length ≤ 1000000000000) fun a b => natOkV (val a - val b) (decide (val b ≤ val a))
theorem s_ref1_Sub : Sound Tryz.prog 103 d_ref1_Sub :=
  told2 Tryz.call103 (fun _ _ => rfl) fun a b _ w u v h hX hu hv => retNatOk hX (refSub w u v a b 0 0 (lim_nt hu) (lim_nt hv) h.1 h.2)
def d_ref1_Mul : Den := den2 aLim aLim (fun a b => a.length ≤ 1000000000000 ∧ b.length ≤ 1000000000000) fun a b => natV (val a * val b)
theorem s_ref1_Mul : Sound Tryz.prog 105 d_ref1_Mul :=
  told2 Tryz.call105 (fun _ _ => rfl) fun a b _ w u v h hX hu hv => retNat hX (refMul1 w u v a b 0 0 (lim_nt hu) (lim_nt hv) h.1 h.2)
def d_ref1_DivMod : Den := den2 aLim aLim (fun a b => a.length ≤ 500000000000 ∧ b.length ≤ 500000000000) fun a b => divV (val a) (val b)
theorem s_ref1_DivMod : Sound Tryz.prog 73 d_ref1_DivMod :=
  told2 Tryz.call73 (fun _ _ => rfl) fun a b _ w u v h hX hu hv => retDiv hX (refDivMod w u v a b 0 0 (lim_nt hu) (lim_nt hv) h.1 h.2)
def d_ref1_Shift : Den := den2 aLim aInt (fun a n => a.length ≤ 1000000000000 ∧ -4096 ≤ n ∧ n ≤ 4096) fun a n => natV (shiftN (val a) n)
theorem s_ref1_Shift : Sound Tryz.prog 51 d_ref1_Shift :=
  told2 Tryz.call51 (fun _ _ => rfl) fun a n _ w u v h hX hu hv => by
    have e : v = .int .i64 n := hv
    subst e
    obtain ⟨hL, h1, h2⟩ := h
    unfold shiftN
    by_cases hn : 0 ≤ n
    · obtain ⟨m, rfl⟩ := Int.eq_ofNat_of_zero_le hn
      rw [if_pos hn]
      exact retNat hX (refShiftUp w u a 0 m (lim_nt hu) (by omega) (by omega))
    · obtain ⟨m, hm⟩ := Int.eq_ofNat_of_zero_le (show 0 ≤ -n by omega)
      have hm' : n = -(m : Int) := by omega
      subst hm'
      rw [if_neg hn, show (- -(m : Int)).toNat = m by omega]
      exact retNat hX (refShiftDown w u a 0 m (lim_nt hu) (by omega) (by omega) (by omega))
def d_ref2_limbs : Den := den2 aLim aLim (fun a _ => a.length ≤ 8000000000000 ∧ True) fun a b => boolV (decide (a = b))
theorem s_ref2_limbs : Sound Tryz.prog 55 d_ref2_limbs :=
  told2 Tryz.call55 (fun _ _ => rfl) fun a b _ w u v h _ hu hv => retFlat (fun _ => rfl) (refLimbs w u v a b 0 0 (lim_nt hu) (lim_nt hv) h.1)
end Go.Proofs.YtnjgliojkoeneaaGreat
