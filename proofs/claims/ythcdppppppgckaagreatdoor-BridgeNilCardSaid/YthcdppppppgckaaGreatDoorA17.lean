/- Texts joined into one file: GAdm, GSmall, GWhich. -/
import Derived.Test.YthcdppppppgckaaGreatDoorA16

namespace Go.Proofs.YthcdppppppgckaaGreatDoor
open Go.RowKit Go.Lib Go.Maps Go.Sort
set_option maxRecDepth 20000

theorem rd_fold : ∀ (L : List Tmd) (F0 : Str → Option Int), (L.map Prod.fst).Nodup → (∀ t ∈ L, L.foldl (fun F t => upd F t.1 t.2) F0 t.1 = some t.2) ∧ ∀ a, a ∉ L.map Prod.fst → L.foldl (fun F t => upd F t.1 t.2) F0 a = F0 a
 | [], F0, _ => ⟨by simp, fun _ _ => rfl⟩
 | t :: L, F0, h => by
   rw [List.map_cons, List.nodup_cons] at h
   obtain ⟨i1, i2⟩ := rd_fold L (upd F0 t.1 t.2) h.2
   rw [List.foldl_cons]
   refine ⟨fun u hu => ?_, fun a ha => ?_⟩
   · rcases List.mem_cons.1 hu with rfl | hu
     · rw [i2 u.1 h.1]; simp [upd]
     · exact i1 u hu
   · rw [List.map_cons, List.mem_cons, not_or] at ha
     rw [i2 a ha.2]
     simp [upd, ha.1]

theorem rd_nodup (L : List Tmd) (h : (L.map Prod.fst).Nodup) : (∀ t ∈ L, rd L t.1 = some t.2) ∧ ∀ a, a ∉ L.map Prod.fst → rd L a = none := rd_fold L _ h

def padm (ex : Bool) (at' : Int) (L : List Tmd) (now : Int) (a : Str) : Bool :=
 pcheck ex at' L && (if (ex && decide (now < at')) then !(exF (ex && decide (now < at')) now (rd L) a == some 0) else (exF (ex && decide (now < at')) now (rd L) a).getD 0 != 0)


end Go.Proofs.YthcdppppppgckaaGreatDoor

namespace Go.Proofs.YthcdppppppgckaaGreatDoor
open Go.RowKit Go.Lib Go.Sort
set_option maxRecDepth 20000

end Go.Proofs.YthcdppppppgckaaGreatDoor
