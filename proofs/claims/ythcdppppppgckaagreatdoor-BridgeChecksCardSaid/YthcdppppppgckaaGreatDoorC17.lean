/- Texts joined into one file: GLive, GRef1, GPut, GPutW. -/
import Derived.Test.YthcdppppppgckaaGreatDoorC16
import Derived.Test.YthcdppppppgckaaGreatDoorC12
import Derived.Test.YthcdppppppgckaaGreatDoorC14
import Derived.Test.YthcdppppppgckaaGreatDoorC05

namespace Go.Proofs.YthcdppppppgckaaGreatDoor
open Go.RowKit Go.Lib Go.Maps Go.Sort
set_option maxRecDepth 20000

theorem keys_unique {F : Str → Option Int} {K K' : List Str} (h : KeysOf' F K) (h' : KeysOf' F K') : K = K' :=
 srising_ext h.1 h'.1 (fun x => by rw [h.2, h'.2])
theorem asc_unique {F : Str → Option Int} {L L' : List Tmd} (h : Asc F L) (h' : Asc F L') : L = L' := by
 have e := keys_unique h.1 h'.1
 have hl : L.length = L'.length := by have := congrArg List.length e; simpa using this
 refine List.ext_getElem hl (fun i h1 h2 => ?_)
 have e1 : (L[i]).1 = (L'[i]).1 := by
  have : (L.map Prod.fst)[i]'(by simpa using h1) = (L'.map Prod.fst)[i]'(by simpa using h2) := by simp only [e]
  simpa using this
 have q1 := h.2 _ (List.getElem_mem h1)
 have q2 := h'.2 _ (List.getElem_mem h2)
 rw [e1, q2] at q1
 injection q1 with q1
 exact Prod.ext e1 q1.symm
theorem rises_unique {q : Str → Bool} {R R' : List Str} (h : Rises q R) (h' : Rises q R') : R = R' := srising_ext h.1 h'.1 (fun x => by rw [h.2, h'.2])

theorem asc_of {F : Str → Option Int} {L : List Tmd} (h : (L.map Prod.fst).Pairwise (· < ·)) (he : ∀ a, F a = rd L a) : Asc F L := by
 have hn : (L.map Prod.fst).Nodup := h.imp (fun {x y} (hlt : x < y) (e : x = y) => by subst e; exact slt_irrefl _ hlt)
 obtain ⟨h1, h2⟩ := rd_nodup L hn
 refine ⟨⟨h, fun a => ?_⟩, fun t ht => by rw [he]; exact h1 t ht⟩
 rw [he]
 constructor
 · intro ha
   obtain ⟨t, ht, rfl⟩ := List.mem_map.1 ha
   rw [h1 t ht]; simp
 · intro ha
   by_cases hm : a ∈ L.map Prod.fst
   · exact hm
   · exact absurd (h2 a hm) ha




end Go.Proofs.YthcdppppppgckaaGreatDoor
