/- Contracts whose answers lie in new memory; rows laid with one number. No condition. -/
import Derived.Test.YtifnpelkoklcnaaBz
namespace Go.Proofs.Ytifnpelkoklcnaa
open Go.RowKit
set_option linter.unusedSimpArgs false
set_option linter.unusedVariables false

section
variable {P : Program} {f : Nat}
theorem told1N {α : Type} {A : Arg α} {pre : α → Prop} {r : α → AV} (hc : CallOk P f) (hflat : ∀ a, (r a).strip = r a)
    (h : ∀ a X w v, pre a → (A.un a).P X w v → ∀ Y : Nat → Nat → Prop, (∀ b o, Y b o → b < w.heap.size) → Calls P f #[v] w fun e w' => ∃ u, e = .returned u ∧ (r a).P Y w' u ∧ Below w.heap.size w w') : SoundN P f (den1 A pre r) := by
  refine ⟨hc, fun avs X w vs hd hX hvs => ?_, fun avs hd => ?_⟩
  · obtain ⟨a, h1, h2, e⟩ := den1_inv hd
    obtain ⟨v, rfl, hv⟩ := hvs.args1 h1
    rw [e]
    exact h a X w v h2 hv _ fun b o h => h.elim (hX b o) id
  · obtain ⟨a, _, _, e⟩ := den1_inv hd; rw [e]; exact hflat a
theorem told2N {α β : Type} {A : Arg α} {B : Arg β} {pre : α → β → Prop} {r : α → β → AV} (hc : CallOk P f) (hflat : ∀ a b, (r a b).strip = r a b)
    (h : ∀ a b X w u v, pre a b → (A.un a).P X w u → (B.un b).P X w v → ∀ Y : Nat → Nat → Prop, (∀ b o, Y b o → b < w.heap.size) → Calls P f #[u, v] w fun e w' => ∃ u, e = .returned u ∧ (r a b).P Y w' u ∧ Below w.heap.size w w') : SoundN P f (den2 A B pre r) := by
  refine ⟨hc, fun avs X w vs hd hX hvs => ?_, fun avs hd => ?_⟩
  · obtain ⟨a, b, h1, h2, e⟩ := den2_inv hd
    obtain ⟨u, v, rfl, hu, hv⟩ := hvs.args2 h1
    rw [e]
    exact h a b X w u v h2 hu hv _ fun b o h => h.elim (hX b o) id
  · obtain ⟨a, b, _, _, e⟩ := den2_inv hd; rw [e]; exact hflat a b
end

theorem sn_rat_Norm : SoundN Try.prog 64 d_rat_Norm :=
  told1N Try.call64 (fun _ => rfl) fun a _ w u h hu _ hY => retRat hY (ratNorm w u a.q (rat_R hu h))
theorem sn_rat_Add : SoundN Try.prog 101 d_rat_Add :=
  told2N Try.call101 (fun _ _ => rfl) fun a b _ w u v h hu hv _ hY => retRat hY (ratAdd w u v a.q b.q (rat_R hu h.1) (rat_R hv h.2))
/-- the first so many numbers laid anew -/
def fillN (v : Nat) (xs : List Nat) : Nat → List Nat
  | 0 => xs
  | i + 1 => (fillN v xs i).set i v
theorem fillN_len (v : Nat) (xs : List Nat) : ∀ i, (fillN v xs i).length = xs.length
  | 0 => rfl
  | i + 1 => by show ((fillN v xs i).set i v).length = _; rw [List.length_set, fillN_len v xs i]
theorem fillN_zero (v : Nat) (xs : List Nat) : fillN v xs 0 = xs := rfl
theorem fillN_next (v : Nat) (xs : List Nat) (i : Nat) : (fillN v xs i).set i v = fillN v xs (i + 1) := rfl

end Go.Proofs.Ytifnpelkoklcnaa
