/- Changes as pairs and back; keys that rise (seat S). -/
import Derived.Test.YtibdiikcigokjaaGreatSkStX
import Derived.Test.YtibdiikcigokjaaGreatSkTbA
import Derived.Laws.MakeOwn
namespace Go.Proofs.YtibdiikcigokjaaGreat
open Go Go.RowKit Go.MapKept
set_option linter.unusedVariables false
set_option linter.unusedSimpArgs false
open AF (nmI IdOk Live Has Upd Dirc ltB)
open TS (Ch chC Diffs appL VT)

def pl : ByteArray := ⟨#[43]⟩
def mi : ByteArray := ⟨#[45]⟩
def chPair (x : Ch) : ByteArray × ByteArray := if x.2.2 = true then (mi ++ x.1, .empty) else (pl ++ x.1, x.2.1)
def chPairs (d : List Ch) : Prs := d.map chPair
/-- Changes as Diff tells them: what is gone has no value; the keys rise. -/
def ChOk (d : List Ch) : Prop := (∀ x ∈ d, x.2.2 = true → x.2.1 = .empty) ∧ Tb.Up (V := VT × Bool) d
def ChInfo (P : Program) (e : TypeId) : Prop := ∃ i, P.info? e = some i ∧ i.zero = some (.agg #[.string .empty, .string .empty, .bool false]) ∧ i.size = 3 ∧ i.bytes = 40
theorem chInfo103 : ChInfo Tryz.prog 103 := ⟨(Tryz.prog.info? 103).get (by kernel_rfl), by kernel_rfl, by kernel_rfl, by kernel_rfl, by kernel_rfl⟩
def ch0 : Ch := (.empty, .empty, false)
theorem made_ch (n : Nat) : (madeCells (Value.cells (.agg #[.string .empty, .string .empty, .bool false])) (n * 3)).toList = (List.replicate n ch0).flatMap chC := by
  have hz : Value.cells (.agg #[.string .empty, .string .empty, .bool false]) = #[.string .empty, .string .empty, .bool false] := by simp [Value.cells]
  rw [hz]
  apply List.ext_getElem?
  intro j
  by_cases hj : j < n * 3
  · have hi : (List.replicate n ch0)[j / 3]? = some ch0 := by rw [List.getElem?_replicate, if_pos (by omega)]
    have h2 := flatC_get (f := chC) (sz := 3) (fun _ => rfl) hi (j := j % 3) (Nat.mod_lt _ (by decide))
    rw [show j / 3 * 3 + j % 3 = j by omega] at h2
    rw [h2]
    have : (madeCells #[.string .empty, .string .empty, .bool false] (n * 3)).toList[j]? = some (#[Value.string .empty, .string .empty, .bool false][j % 3]!) := by
      unfold madeCells
      simp [hj]
    rw [this]
    have h3 : j % 3 < 3 := Nat.mod_lt _ (by decide)
    generalize j % 3 = m at h3
    match m, h3 with
    | 0, _ => rfl
    | 1, _ => rfl
    | 2, _ => rfl
  · rw [List.getElem?_eq_none (by simp [madeCells]; omega), List.getElem?_eq_none (by rw [flatC_length (sz := 3) (fun _ => rfl)]; simp; omega)]
theorem make_ch {P : Program} {t e : TypeId} {n : Nat} {h : Heap} {F : List HProp} {K : Value → Heap → Prop} (ht : P.underlying t = some (.slice e)) (hi : ChInfo P e) (hn : n ≤ 1000000) (H : sat F h)
    (hK : ∀ a h', sat (ownS e 3 (some a) n n ((List.replicate n ch0).flatMap chC) :: F) h' → K (.slice (some a) n n) h') : RunH P (Instr.makeSlice t (.int .i64 (n : Int)) (.int .i64 (n : Int))) h K := by
  obtain ⟨i, h1, h2, h3, h4⟩ := hi
  intro w hw
  subst hw
  have hr := run_makeSlice (P := P) w t e i _ ht h1 h2 .i64 .i64 (n : Int) (n : Int) (by omega) (Int.le_refl _) (by rw [h3, Int.toNat_natCast]; omega) (by rw [h4]; omega) (by omega)
  rw [Int.toNat_natCast, h3] at hr
  refine ⟨_, _, hr, ⟨rfl, rfl, rfl⟩, ?_⟩
  refine hK _ _ ?_
  have H2 := H.push (.cells (madeCells (Value.cells (.agg #[.string .empty, .string .empty, .bool false])) (n * 3)) e)
  refine ownS_mk H2 (by intro j hj; simp) (Nat.le_refl _) (by unfold maxLen; omega) (by rw [size_madeCells]) ?_
  rw [List.take_of_length_le (by simp [madeCells]), made_ch]
end Go.Proofs.YtibdiikcigokjaaGreat
