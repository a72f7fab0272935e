/-
  Any bytes at any place: the node, or what is wrong.
-/
import Derived.Test.YtdjkcmjhknabnaaDoorNodeLaw
namespace Go.Proofs.YtdjkcmjhknabnaaDoor
open Go.RowKit

theorem encB_good {q : Int} {g l : Bool} {k v : ByteArray} (h : goodN q g k v = true) : encB q g l k v = sealed (headB q g l k v ++ k ++ v) := by unfold encB; rw [h]; rfl
theorem encB_size {q : Int} {g l : Bool} {k v : ByteArray} (h : goodN q g k v = true) : (encB q g l k v).size = 17 + k.size + v.size := by
  rw [encB_good h, sealed_size, ByteArray.size_append, ByteArray.size_append, headB_size]; omega
theorem empty_app (s : ByteArray) : (⟨#[]⟩ : ByteArray) ++ s = s := bytes_ext (by rw [cat_list]; rfl)
theorem app_empty (s : ByteArray) : s ++ (⟨#[]⟩ : ByteArray) = s := bytes_ext (by rw [cat_list]; exact List.append_nil _)

end Go.Proofs.YtdjkcmjhknabnaaDoor
