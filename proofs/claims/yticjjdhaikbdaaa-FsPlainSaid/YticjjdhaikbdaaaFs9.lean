/- The closures that a pending operation is. -/
import Derived.Test.YticjjdhaikbdaaaFs8
namespace Go.Proofs.Yticjjdhaikbdaaa
open Go Go.RowKit Go.MapKept
set_option linter.unusedVariables false
set_option linter.unusedSimpArgs false

theorem LdB {h : Heap} {b : Nat} {e : TypeId} {fr : Nat × Nat} {v : Value} {K : Value → Prop} (hb : h[b]? = some (.cells #[v] e fr)) (hK : K v) : Ld h ⟨b, 0, none⟩ K :=
  ⟨v, by rw [cellAt_of hb]; rfl, hK⟩
theorem mapEs_ownM {κ : Type} [DecidableEq κ] {E : Keys κ} {b : Nat} {m : List (κ × Value)} {F : List HProp} {h : Heap} (H : sat (ownM E b m :: F) h) : ∃ es clock, MapIs E es clock m ∧ mapEs h (some b) es := by
  obtain ⟨es, clock, hm, H2⟩ := ownM_open H
  exact ⟨es, clock, hm, clock, H2.get⟩
theorem u88 : Try.prog.underlying 88 = some (.map 9 92) := by kernel_rfl
theorem u9 : Try.prog.underlying 9 = some strKeys.desc := by kernel_rfl
theorem F59_spec {mb bx bn xb : Nat} {m : List (ByteArray × Value)} {n : ByteArray} {ex en : TypeId} {h : Heap} {F : List HProp} (H : sat (ownM strKeys mb m :: F) h) (hx : h[bx]? = some (.cells #[ptrV xb] ex (0, 0))) (hn : h[bn]? = some (.cells #[.string n] en (0, 0))) :
    CallsH Try.prog 59 [.map (some mb), ptrV bx, ptrV bn] h fun v h' => v = .tuple #[] ∧ sat (ownM strKeys mb (updM m n (ptrV xb)) :: F) h' := by
  apply F59_ok (n0 := some mb) (c0 := ⟨bx, 0, none⟩) (c1 := ⟨bn, 0, none⟩)
  unfold F59
  refine LdB hn ?_
  rw [DS_string]
  refine LdB hx ?_
  show DP (.pointer (some ⟨xb, 0, none⟩)) _
  rw [DP_pointer]
  exact mapUpdate_sat (E := strKeys) (k := n) u88 u9 H fun h' H' => ⟨rfl, H'⟩
theorem F68_spec {mb bn : Nat} {m : List (ByteArray × Value)} {n : ByteArray} {en : TypeId} {h : Heap} {F : List HProp} (H : sat (ownM strKeys mb m :: F) h) (hn : h[bn]? = some (.cells #[.string n] en (0, 0))) :
    CallsH Try.prog 68 [.map (some mb), ptrV bn] h fun v h' => v = .tuple #[] ∧ sat (ownM strKeys mb (delM m n) :: F) h' := by
  apply F68_ok (n0 := some mb) (c0 := ⟨bn, 0, none⟩)
  unfold F68
  refine LdB hn ?_
  rw [DS_string]
  exact delete_sat (E := strKeys) (k := n) u88 u9 H fun h' H' => ⟨rfl, H'⟩
theorem F62_spec {mb ba bb : Nat} {m : List (ByteArray × Value)} {a b : ByteArray} {ea eb : TypeId} {p : Option Addr} {h : Heap} {F : List HProp} (H : sat (ownM strKeys mb m :: F) h) (ha : h[ba]? = some (.cells #[.string a] ea (0, 0)))
    (hb : ∀ h', sat (ownM strKeys mb (delM m a) :: F) h' → h'[bb]? = some (.cells #[.string b] eb (0, 0))) (hp : (lkM m a).getD (.pointer none) = .pointer p) :
    CallsH Try.prog 62 [.map (some mb), ptrV ba, ptrV bb] h fun v h' => v = .tuple #[] ∧ sat (ownM strKeys mb (updM (delM m a) b (.pointer p)) :: F) h' := by
  apply F62_ok (n0 := some mb) (c0 := ⟨ba, 0, none⟩) (c1 := ⟨bb, 0, none⟩)
  unfold F62
  refine LdB ha ?_
  rw [DS_string]
  obtain ⟨es, clock, hm, hes⟩ := mapEs_ownM H
  obtain ⟨f, hf, hl, _⟩ := hm.find a
  refine ⟨es, hes, f, hf, ?_⟩
  rw [hl, hp, DP_pointer]
  refine LdB ha ?_
  rw [DS_string]
  refine delete_sat (E := strKeys) (k := a) u88 u9 H fun h1 H1 => ?_
  refine LdB (hb h1 H1) ?_
  rw [DS_string]
  exact mapUpdate_sat (E := strKeys) (k := b) u88 u9 H1 fun h' H' => ⟨rfl, H'⟩

end Go.Proofs.Yticjjdhaikbdaaa
