/- Tables in memory: what their calls do (seat T; things of type VT). -/
import Derived.Test.YtfpdejkcjijmmaaQiTb1
import Derived.Test.YtfpdejkcjijmmaaQiFs3S
namespace Go.Proofs.Ytfpdejkcjijmmaa.TS
open Go Go.RowKit Go.MapKept
open Tb (T get set del Up Has)
set_option linter.unusedVariables false
set_option linter.unusedSimpArgs false

abbrev VT := ByteArray
abbrev ve (x : VT) : Value := .string x
abbrev vz : VT := .empty
theorem DV (x : VT) (K : VT → Prop) : DS (ve x) K = K x := DS_string x K
theorem uMap : Try.prog.underlying 79 = some (.map 9 9) := by kernel_rfl
theorem uKey : Try.prog.underlying 9 = some strKeys.desc := by kernel_rfl
structure TabQ where
  mb : Nat
  m : List (ByteArray × Value)
  ka : Option Addr
  kl : Nat
  kc : Nat
  fr : Bool
  kx : List ByteArray
/-- What the pieces of a table are to one another. -/
structure TabOk (l : T VT) (q : TabQ) : Prop where
  has : Has ve q.m l
  cap : q.kl ≤ q.kc
  fresh : q.fr = true → q.kx = l.map (·.1) ∧ q.kl = l.length
abbrev tabC (q : TabQ) : Array Value := #[.map (some q.mb), .slice q.ka q.kl q.kc, .bool q.fr]
abbrev tabO (b : Nat) (q : TabQ) : HProp := pt b (.cells (tabC q) 82 (0, 0))
abbrev tabK (q : TabQ) : HProp := roS q.ka (q.kx.map Value.string)
def tabP (b : Nat) (l : T VT) : HProp := exi fun q : TabQ => Many [pur (TabOk l q), tabO b q, ownM strKeys q.mb q.m, tabK q]
section
variable {b : Nat} {l : T VT} {F : List HProp} {h : Heap}
theorem tab_open (H : sat (tabP b l :: F) h) : ∃ q, TabOk l q ∧ sat (tabO b q :: ownM strKeys q.mb q.m :: tabK q :: F) h := by
  obtain ⟨q, H1⟩ := sat_exi.1 H
  obtain ⟨h1, H2⟩ := sat_pur.1 H1.open
  exact ⟨q, h1, H2⟩
theorem tab_shut {q : TabQ} (hq : TabOk l q) (H : sat (tabO b q :: ownM strKeys q.mb q.m :: tabK q :: F) h) : sat (tabP b l :: F) h :=
  sat_exi.2 ⟨q, sat.shut (m := [pur (TabOk l q), tabO b q, ownM strKeys q.mb q.m, tabK q]) (sat_pur.2 ⟨hq, H⟩)⟩
/-- A look into the map. -/
theorem look {m : List (ByteArray × Value)} {mb : Nat} (hm : Has ve m l) (H : sat (ownM strKeys mb m :: F) h) (k : ByteArray) :
    ∃ es, mapEs h (some mb) es ∧ ∃ f, Instr.findNow .string (.string k) (es : Array MapEntry).toList 0 = some f ∧ Option.map (fun x => x.2) f = (get l k).map ve ∧ f.isSome = (get l k).isSome := by
  obtain ⟨es, clock, hmi, hes⟩ := mapEs_ownM H
  obtain ⟨f, hf, hl, _⟩ := hmi.find k
  rw [hm.lk] at hl
  refine ⟨es, hes, f, hf, hl, ?_⟩
  have := congrArg Option.isSome hl
  simpa using this
theorem got (o : Option VT) : (o.map ve).getD (ve vz) = ve (o.getD vz) := by cases o <;> rfl
abbrev getV (l : T VT) (k : ByteArray) : Value := .tuple #[ve ((get l k).getD vz), .bool (get l k).isSome]
end

end Go.Proofs.Ytfpdejkcjijmmaa.TS
