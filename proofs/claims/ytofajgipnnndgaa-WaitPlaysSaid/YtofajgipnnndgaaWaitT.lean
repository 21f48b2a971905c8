/-
  WaitPlays over what comes in.
-/
import Derived.Test.YtofajgipnnndgaaWaitL
import Derived.Test.YtofajgipnnndgaaWaitS
set_option linter.unusedSimpArgs false
set_option linter.unusedVariables false
namespace Go.Proofs.Ytofajgipnnndgaa
open Go Go.Sx

theorem plays19_ok (room tries time : Int) (v : Value) (l : List WActOk) (w : World) (hl : ArgSl w 17 v (l.map encWo)) : Calls Try.prog 8 #[.int .i64 room, .int .i64 tries, .int .i64 time, v] w fun e w' => e = .returned (.bool true) ∧ Keep w w' := by
  have e : (l.map (fun a : WActOk => a.1)).map encW = l.map encWo := by rw [List.map_map]; rfl
  refine plays19_any room tries time v (l.map fun a : WActOk => a.1) w (fun a ha => ?_) (by rw [e]; exact hl)
  obtain ⟨b, _, rfl⟩ := List.mem_map.1 ha
  exact b.2
end Go.Proofs.Ytofajgipnnndgaa
