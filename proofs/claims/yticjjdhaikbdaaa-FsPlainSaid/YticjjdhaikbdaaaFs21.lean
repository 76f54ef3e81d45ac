/- What crashes leave: plain. -/
import Derived.Test.YticjjdhaikbdaaaFs5b
namespace Go.Proofs.Yticjjdhaikbdaaa
namespace AF
set_option linter.unusedVariables false

/-- What is left of a file: its beginning, no less than was safe. -/
def Cut (y z : File) : Prop := ∃ n, y.safe ≤ n ∧ n ≤ y.b.length ∧ z.b = y.b.take n ∧ y.safe ≤ z.safe ∧ z.safe ≤ z.b.length
theorem Cut.refl {y : File} (h : FileOk y) : Cut y y := ⟨y.b.length, h.1, Nat.le_refl _, by rw [List.take_length], Nat.le_refl _, h.1⟩
theorem Cut.trans {x y z : File} (h1 : Cut x y) (h2 : Cut y z) : Cut x z := by
  obtain ⟨n, a1, a2, a3, a4, a5⟩ := h1
  obtain ⟨m, b1, b2, b3, b4, b5⟩ := h2
  have hl : y.b.length = n := by rw [a3, List.length_take]; omega
  exact ⟨m, by omega, by omega, by rw [b3, a3, List.take_take, Nat.min_eq_left (by omega)], by omega, b5⟩
theorem crashFiles_cut : ∀ (xs : List Nat) (fs : List File) (l : List Int), (∀ y ∈ fs, FileOk y) → ∀ (i : Nat) (y : File), fs[i]? = some y → ∃ z, (crashFiles xs fs l).1[i]? = some z ∧ Cut y z
  | [], fs, l, ho, i, y, hy => ⟨y, hy, Cut.refl (ho y (List.mem_of_getElem? hy))⟩
  | x :: xs, fs, l, ho, i, y, hy => by
    simp only [crashFiles]
    have hx := getD_ok ho x
    have hok : ∀ z ∈ fs.set x ⟨(fs.getD x default).b.take ((fs.getD x default).safe + (pick l ((fs.getD x default).b.length - (fs.getD x default).safe)).1), (fs.getD x default).safe + (pick l ((fs.getD x default).b.length - (fs.getD x default).safe)).1⟩, FileOk z := fun z hz => by
      rcases List.mem_or_eq_of_mem_set hz with hz | rfl
      · exact ho z hz
      · exact cut_ok hx (pick_le _ _)
    have step : ∃ z, (fs.set x ⟨(fs.getD x default).b.take ((fs.getD x default).safe + (pick l ((fs.getD x default).b.length - (fs.getD x default).safe)).1), (fs.getD x default).safe + (pick l ((fs.getD x default).b.length - (fs.getD x default).safe)).1⟩)[i]? = some z ∧ Cut y z := by
      by_cases hxi : x = i
      · subst hxi
        have hg : fs.getD x default = y := by rw [List.getD_eq_getElem?_getD, hy]; rfl
        rw [hg] at hx ⊢
        have hp := pick_le l (y.b.length - y.safe)
        have h1 := hx.1
        refine ⟨_, by rw [List.getElem?_set]; rw [if_pos rfl, if_pos (List.getElem?_eq_some_iff.1 hy).1], y.safe + (pick l (y.b.length - y.safe)).1, by omega, by omega, rfl, by show y.safe ≤ y.safe + _; omega, ?_⟩
        show y.safe + _ ≤ (y.b.take _).length
        rw [List.length_take]
        omega
      · exact ⟨y, by rw [List.getElem?_set, if_neg hxi]; exact hy, Cut.refl (ho y (List.mem_of_getElem? hy))⟩
    obtain ⟨z, hz, hc⟩ := step
    obtain ⟨z2, hz2, hc2⟩ := crashFiles_cut xs _ (pick l ((fs.getD x default).b.length - (fs.getD x default).safe)).2 hok i z hz
    exact ⟨z2, hz2, hc.trans hc2⟩
theorem crashDirs_at : ∀ (ds : List Dir) (l : List Int) (i : Nat) (d : Dir), ds[i]? = some d → ∃ k, k ≤ d.pend.length ∧ (crashDirs ds l).1[i]? = some ⟨d.name, play d.base (d.pend.take k), play d.base (d.pend.take k), []⟩
  | [], l, i, d, h => by simp at h
  | e :: ds, l, 0, d, h => by
    simp only [List.getElem?_cons_zero, Option.some.injEq] at h
    subst h
    exact ⟨_, pick_le l _, rfl⟩
  | e :: ds, l, i + 1, d, h => by
    obtain ⟨k, hk, he⟩ := crashDirs_at ds (pick l e.pend.length).2 i d (by simpa using h)
    exact ⟨k, hk, by simpa [crashDirs] using he⟩
section
variable {f : FS}
/-- One directory behind a crash: an earlier one's entries; the files cut. -/
theorem crash_look (h : f.WF) (l : List Int) {i : Nat} {d : Dir} (hd : f.dirs[i]? = some d) : ∃ k, k ≤ d.pend.length ∧ (f.crash l).dirs[i]? = some ⟨d.name, play d.base (d.pend.take k), play d.base (d.pend.take k), []⟩ ∧
    ∀ (x : Nat) (y : File), f.files[x]? = some y → ∃ z, (f.crash l).files[x]? = some z ∧ Cut y z := by
  obtain ⟨k, hk, he⟩ := crashDirs_at f.dirs l i d hd
  refine ⟨k, hk, he, fun x y hy => ?_⟩
  exact crashFiles_cut _ f.files _ h.files x y hy
theorem find_first {l : List Dir} {i : Nat} {d : Dir} (hn : (l.map (·.name)).Nodup) (hd : l[i]? = some d) : l.findIdx? (fun e => decide (e.name = d.name)) = some i := by
  rw [List.findIdx?_eq_some_iff_getElem]
  obtain ⟨hi, e⟩ := List.getElem?_eq_some_iff.1 hd
  refine ⟨hi, by simp [e], fun j hj => ?_⟩
  have := List.pairwise_iff_getElem.1 (List.pairwise_map.1 hn) j i (by omega) hi hj
  rw [e] at this
  simpa using this
theorem FS.WF.at_of (h : f.WF) {i : Nat} {d : Dir} (hd : f.dirs[i]? = some d) : f.at d.name = some i := by
  refine find_first ?_ hd
  rw [List.Nodup, List.pairwise_map]
  refine List.Pairwise.imp ?_ h.up
  intro a b hab e
  rw [← e] at hab
  exact strLt_irrefl a.name hab
theorem ready_of (h : f.WF) (ho : f.off = false) {i : Nat} {d : Dir} (hd : f.dirs[i]? = some d) {ss : List ByteArray} (hs : ∀ s ∈ ss, right s = true) : f.ready d.name ss = .ok i := by
  have hr : (right d.name && ss.all right) = true := by
    rw [Bool.and_eq_true, List.all_eq_true]
    exact ⟨(h.each d (List.mem_of_getElem? hd)).name, hs⟩
  unfold FS.ready FS.named
  rw [ho, if_neg (by decide), if_pos hr, h.at_of hd]
theorem ready_off (ho : f.off = true) (dir : ByteArray) (ss : List ByteArray) : f.ready dir ss = .error 60 := by
  unfold FS.ready
  rw [ho, if_pos rfl]
/-- Reading behind a crash. -/
theorem crash_read (h : f.WF) (l : List Int) {i : Nat} {d : Dir} (hd : f.dirs[i]? = some d) : ∃ k, k ≤ d.pend.length ∧ (f.crash l).list d.name = .ok ((play d.base (d.pend.take k)).map (·.1)) ∧
    ∀ (n : ByteArray) (x : Nat) (y : File), of (play d.base (d.pend.take k)) n = some x → f.files[x]? = some y → ∃ m, y.safe ≤ m ∧ m ≤ y.b.length ∧ (f.crash l).read d.name n = .ok (y.b.take m) := by
  obtain ⟨k, hk, he, hf⟩ := crash_look h l hd
  have W := h.crash l
  have hoff : (f.crash l).off = false := rfl
  have hD := D_of he
  have w := W.each _ (List.mem_of_getElem? he)
  refine ⟨k, hk, ?_, fun n x y hn hy => ?_⟩
  · unfold FS.list
    rw [ready_of W hoff he (ss := []) (by simp)]
    simp only [hD]
  · obtain ⟨z, hz, m, h1, h2, h3, _⟩ := hf x y hy
    refine ⟨m, h1, h2, ?_⟩
    have hr : right n = true := (w.ok.each _ (of_mem hn)).2
    unfold FS.read FS.entry
    rw [ready_of W hoff he (ss := [n]) (by simpa using hr)]
    simp only [hD, hn, X_of hz, h3]
end

end AF
end Go.Proofs.Yticjjdhaikbdaaa
