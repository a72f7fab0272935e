/-
  A piece's key read back from a text.
-/
import Derived.Test.YtdjkcmjhknabnaaDoorKeyDec
namespace Go.Proofs.YtdjkcmjhknabnaaDoor.K
open Go.RowKit

set_option maxHeartbeats 4000000 in
theorem key_decode_data (s : ByteArray) (w : World) (hs : 9 ≤ s.size) (hs2 : s.size ≤ 140737488351232) (n p : Int) (hn : n = IntKind.i64.wrap (beN (s.data.toList.take 8))) (hk : (s[8].toNat : Int) = 3) (h4 : s.size = 13) (hp : p = IntKind.i64.wrap (beN (s.extract 9 s.size).data.toList)) :
    Calls Tryd.prog 8 #[.string s] w fun e w' => e = .returned (.tuple #[decV n 3 ⟨#[]⟩ p, .bool (goodB n 3 ⟨#[]⟩ p)]) ∧ Below w.heap.size w w' := by
  have hs1 : (9 : Int) ≤ s.size := by omega
  have hkw := s8_lt hs hk
  have HN := Aside.mk (num_at (s := s) (by omega) hn)
  have h4' : (s.extract 9 s.size).size = 4 := by simp; omega
  have hnum2 : ∀ W : World, Calls Tryd.prog 23 #[.string (s.extract 9 s.size)] W fun e w' => e = .returned (.int .i64 p) ∧ W = w' := fun W => by rw [hp]; exact key_number _ W (by omega)
  have HP := Aside.mk hnum2
  have H4 := Aside.mk (And.intro h4 h4')
  clear hn hp hnum2 h4 h4'
  go_enter Tryd.func8, Tryd.ntmps8
  go_upto_region 3 with fail
  go_cut [4] (fun s4 wx => s4 = .pointer (some ⟨w.heap.size + 1, 0, none⟩) ∧ decW w n 3 = wx)
  case first =>
    go_region_with ((go_at_call 23; refine (HN.out _).mono ?_; rintro e w1 ⟨rfl, rfl⟩))
    all_goals (go_wp2; go_meet; exact ⟨rfl, rfl⟩)
  case rest =>
    obtain ⟨rfl, hW⟩ := hcut
    have h4' := H4.out.2
    clear H4
    have hD := DSt.start w n 3
    generalize decW w n 3 = W at hW hD
    subst hW
    obtain ⟨c0, _⟩ := row_cell hD.new 0 (v := .int .i64 n) rfl
    obtain ⟨c1, _⟩ := row_cell hD.new 1 (v := .int .i64 3) rfl
    obtain ⟨c2, f2⟩ := row_cell hD.new 2 (v := .string ⟨#[]⟩) rfl
    obtain ⟨c3, f3⟩ := row_cell hD.new 3 (v := .int .i64 0) rfl
    have hD2 := (hD.set3 p).alloc (.cells #[.int .i64 n, .int .i64 3, .string ⟨#[]⟩, .int .i64 p] 26)
    go_upto_if 33 with (first | (go_at_call 23; refine (HP.out _).mono ?_; rintro e w2 ⟨rfl, rfl⟩) | (go_at_call 10; refine (key_good n 3 _ p _).mono ?_; rintro e w3 ⟨rfl, hw3⟩; rw [hw3] at hD2; clear hw3 c0 c1 c2 f2 c3 f3 hD))
    obtain ⟨c0, _⟩ := row_cell hD2.new 0 (v := .int .i64 n) rfl
    obtain ⟨c1, _⟩ := row_cell hD2.new 1 (v := .int .i64 3) rfl
    obtain ⟨c2, _⟩ := row_cell hD2.new 2 (v := .string ⟨#[]⟩) rfl
    obtain ⟨c3, _⟩ := row_cell hD2.new 3 (v := .int .i64 p) rfl
    obtain ⟨d0, e0⟩ := row_cell hD2.old 0 (v := .int .i64 0) rfl
    obtain ⟨d1, e1⟩ := row_cell hD2.old 1 (v := .int .i64 0) rfl
    obtain ⟨d2, e2⟩ := row_cell hD2.old 2 (v := .string ⟨#[]⟩) rfl
    obtain ⟨d3, e3⟩ := row_cell hD2.old 3 (v := .int .i64 0) rfl
    cases hg : goodB n 3 ⟨#[]⟩ p
    · go_wp2
      have hf := fin4 hD2.old 0 0 ⟨#[]⟩ 0
      have hbl := below_set4 hD2.bel (.int .i64 0) (.int .i64 0) (.string ⟨#[]⟩) (.int .i64 0)
      clear c0 c1 c2 c3 d0 d1 d2 d3 e0 e1 e2 e3
      generalize (((w3.setCell ⟨w.heap.size, 0, none⟩ (.int .i64 0)).setCell ⟨w.heap.size, 1, none⟩ (.int .i64 0)).setCell ⟨w.heap.size, 2, none⟩ (.string ⟨#[]⟩)).setCell ⟨w.heap.size, 3, none⟩ (.int .i64 0) = W4 at *
      obtain ⟨q0, _⟩ := row_cell hf 0 (v := .int .i64 0) rfl
      obtain ⟨q1, _⟩ := row_cell hf 1 (v := .int .i64 0) rfl
      obtain ⟨q2, _⟩ := row_cell hf 2 (v := .string ⟨#[]⟩) rfl
      obtain ⟨q3, _⟩ := row_cell hf 3 (v := .int .i64 0) rfl
      exact bodyPost_ret (v := .tuple #[decV n 3 ⟨#[]⟩ p, .bool (goodB n 3 ⟨#[]⟩ p)]) (by simp [results, Tryd.results8, go_sem, decV, hg, q0, q1, q2, q3]) rfl ⟨rfl, hbl⟩
    · go_wp2
      have hf := fin4 hD2.old n 3 ⟨#[]⟩ p
      have hbl := below_set4 hD2.bel (.int .i64 n) (.int .i64 3) (.string ⟨#[]⟩) (.int .i64 p)
      clear c0 c1 c2 c3 d0 d1 d2 d3 e0 e1 e2 e3
      generalize (((w3.setCell ⟨w.heap.size, 0, none⟩ (.int .i64 n)).setCell ⟨w.heap.size, 1, none⟩ (.int .i64 3)).setCell ⟨w.heap.size, 2, none⟩ (.string ⟨#[]⟩)).setCell ⟨w.heap.size, 3, none⟩ (.int .i64 p) = W4 at *
      obtain ⟨q0, _⟩ := row_cell hf 0 (v := .int .i64 n) rfl
      obtain ⟨q1, _⟩ := row_cell hf 1 (v := .int .i64 3) rfl
      obtain ⟨q2, _⟩ := row_cell hf 2 (v := .string ⟨#[]⟩) rfl
      obtain ⟨q3, _⟩ := row_cell hf 3 (v := .int .i64 p) rfl
      exact bodyPost_ret (v := .tuple #[decV n 3 ⟨#[]⟩ p, .bool (goodB n 3 ⟨#[]⟩ p)]) (by simp [results, Tryd.results8, go_sem, decV, hg, q0, q1, q2, q3]) rfl ⟨rfl, hbl⟩
end Go.Proofs.YtdjkcmjhknabnaaDoor.K
