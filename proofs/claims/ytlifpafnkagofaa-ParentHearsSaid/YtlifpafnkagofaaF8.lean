import Derived.Test.YtlifpafnkagofaaF7
namespace Go.Proofs.Ytlifpafnkagofaa.F
open Go.RowKit Go.Sort Go.Proofs.Ytlifpafnkagofaa.B Go.Proofs.Ytlifpafnkagofaa.S
set_option linter.unusedVariables false
set_option linter.unusedSimpArgs false
set_option maxHeartbeats 4000000 in
set_option maxRecDepth 100000 in
theorem better_ (a0 a1 a2 a3 a4 a5 a6 a7 b0 b1 b2 b3 b4 b5 b6 b7 : Int) (h1 : 0 ≤ a2) (h2 : a2 ≤ 65535) (h3 : 0 ≤ a7) (h4 : a7 ≤ 1023) (k1 : 0 ≤ b2) (k2 : b2 ≤ 65535) (k3 : 0 ≤ b7) (k4 : b7 ≤ 1023) (w : World) :
    Calls Try.prog 65 #[.agg #[.int .i64 a0, .int .i64 a1, .int .i64 a2, .int .i64 a3, .int .i64 a4, .int .i64 a5, .int .i64 a6, .int .i64 a7], .agg #[.int .i64 b0, .int .i64 b1, .int .i64 b2, .int .i64 b3, .int .i64 b4, .int .i64 b5, .int .i64 b6, .int .i64 b7]] w
      fun e w' => e = .returned (.int .i64 (orS (cmpS b1 a1) (cmpS (a2 + a7) (b2 + b7)) (cmpS a0 b0))) ∧ Gr w w' := by
  have hm := mixed
  go_enter Try.func65, Try.ntmps65
  go_wp2
  go_region_held3 (fun w' => w'.cell? ⟨w.heap.size, 0, none⟩ = some (.int .i64 a0) ∧ w'.cell? ⟨w.heap.size, 1, none⟩ = some (.int .i64 a1) ∧ w'.cell? ⟨w.heap.size, 2, none⟩ = some (.int .i64 a2) ∧ w'.cell? ⟨w.heap.size, 3, none⟩ = some (.int .i64 a3) ∧ w'.cell? ⟨w.heap.size, 4, none⟩ = some (.int .i64 a4) ∧ w'.cell? ⟨w.heap.size, 5, none⟩ = some (.int .i64 a5) ∧ w'.cell? ⟨w.heap.size, 6, none⟩ = some (.int .i64 a6) ∧ w'.cell? ⟨w.heap.size, 7, none⟩ = some (.int .i64 a7) ∧
      w'.cell? ⟨w.heap.size + 1, 0, none⟩ = some (.int .i64 b0) ∧ w'.cell? ⟨w.heap.size + 1, 1, none⟩ = some (.int .i64 b1) ∧ w'.cell? ⟨w.heap.size + 1, 2, none⟩ = some (.int .i64 b2) ∧ w'.cell? ⟨w.heap.size + 1, 3, none⟩ = some (.int .i64 b3) ∧ w'.cell? ⟨w.heap.size + 1, 4, none⟩ = some (.int .i64 b4) ∧ w'.cell? ⟨w.heap.size + 1, 5, none⟩ = some (.int .i64 b5) ∧ w'.cell? ⟨w.heap.size + 1, 6, none⟩ = some (.int .i64 b6) ∧ w'.cell? ⟨w.heap.size + 1, 7, none⟩ = some (.int .i64 b7))
    (first | go_keep | (go_simp; done))
    (first | (go_at_call 69; (with_reducible refine (compare_ _ _ _).mono ?_); rintro e w' ⟨rfl, rfl⟩) | (go_at_call 45; (with_reducible refine (lpath _ _ _ _ _ _ _ _ (by assumption) (by assumption) (by assumption) (by assumption) _).mono ?_); rintro e w' ⟨rfl, hg⟩; obtain ⟨n, os, rfl⟩ := hg.out; clear hg) | (go_at_call 72; (refine (or3 _ (cmpS b1 a1) (cmpS (a2 + a7) (b2 + b7)) (cmpS a0 b0) _ ?c0 ?c1 ?c2).mono ?_); (case c0 => go_simp); (case c1 => go_simp); (case c2 => go_simp); rintro e w' ⟨rfl, rfl⟩))
  all_goals
    go_wp2
    go_ret
    exact ⟨rfl, (by repeat (first | exact Gr.refl _ | with_reducible apply Gr.alloc | with_reducible apply Gr.grow | with_reducible apply Gr.drewN | with_reducible apply Gr.drew))⟩
end Go.Proofs.Ytlifpafnkagofaa.F
