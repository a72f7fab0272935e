/-
  A piece's key read back from a text.
-/
import Derived.Test.YtdjkcmjhknabnaaDoorKeyDec
namespace Go.Proofs.YtdjkcmjhknabnaaDoor.K
open Go.RowKit

set_option maxHeartbeats 4000000 in
theorem key_decode_none (s : ByteArray) (w : World) (hs : 9 ≤ s.size) (hs2 : s.size ≤ 140737488351232) (n : Int) (hn : n = IntKind.i64.wrap (beN (s.data.toList.take 8))) (hk : (s[8].toNat : Int) = 3) (h4 : s.size ≠ 13) :
    Calls Tryd.prog 8 #[.string s] w fun e w' => e = .returned (.tuple #[noKey, .bool false]) ∧ Below w.heap.size w w' := by
  have hs1 : (9 : Int) ≤ s.size := by omega
  have hkw := s8_lt hs hk
  have HN := Aside.mk (num_at (s := s) (by omega) hn)
  have h4' : (((s.extract 9 s.size).size : Int) == 4) = false := by simp; omega
  have h4s : (s.extract 9 s.size).size = s.size - 9 := by simp
  have H4 := Aside.mk (And.intro h4' h4s)
  clear hn h4 h4' h4s
  go_enter Tryd.func8, Tryd.ntmps8
  go_upto_region 3 with fail
  go_cut [4] (fun s4 wx => s4 = .pointer (some ⟨w.heap.size + 1, 0, none⟩) ∧ decW w n 3 = wx)
  case first =>
    go_region_with ((go_at_call 23; refine (HN.out _).mono ?_; rintro e w1 ⟨rfl, rfl⟩))
    all_goals (go_wp2; go_meet; exact ⟨rfl, rfl⟩)
  case rest =>
    obtain ⟨rfl, hW⟩ := hcut
    obtain ⟨h4', h4s⟩ := H4.out
    clear H4
    have hD := DSt.start w n 3
    generalize decW w n 3 = W at hW hD
    subst hW
    obtain ⟨c1, _⟩ := row_cell hD.new 1 (v := .int .i64 3) rfl
    obtain ⟨d0, e0⟩ := row_cell hD.old 0 (v := .int .i64 0) rfl
    obtain ⟨d1, e1⟩ := row_cell hD.old 1 (v := .int .i64 0) rfl
    obtain ⟨d2, e2⟩ := row_cell hD.old 2 (v := .string ⟨#[]⟩) rfl
    obtain ⟨d3, e3⟩ := row_cell hD.old 3 (v := .int .i64 0) rfl
    go_wp2
    have hf := fin4 hD.old 0 0 ⟨#[]⟩ 0
    have hbl := below_set4 hD.bel (.int .i64 0) (.int .i64 0) (.string ⟨#[]⟩) (.int .i64 0)
    clear c1 d0 d1 d2 d3 e0 e1 e2 e3
    generalize (((W.setCell ⟨w.heap.size, 0, none⟩ (.int .i64 0)).setCell ⟨w.heap.size, 1, none⟩ (.int .i64 0)).setCell ⟨w.heap.size, 2, none⟩ (.string ⟨#[]⟩)).setCell ⟨w.heap.size, 3, none⟩ (.int .i64 0) = W4 at *
    obtain ⟨q0, _⟩ := row_cell hf 0 (v := .int .i64 0) rfl
    obtain ⟨q1, _⟩ := row_cell hf 1 (v := .int .i64 0) rfl
    obtain ⟨q2, _⟩ := row_cell hf 2 (v := .string ⟨#[]⟩) rfl
    obtain ⟨q3, _⟩ := row_cell hf 3 (v := .int .i64 0) rfl
    exact bodyPost_ret (v := .tuple #[noKey, .bool false]) (by simp [results, Tryd.results8, go_sem, q0, q1, q2, q3]) rfl ⟨rfl, hbl⟩

end Go.Proofs.YtdjkcmjhknabnaaDoor.K
