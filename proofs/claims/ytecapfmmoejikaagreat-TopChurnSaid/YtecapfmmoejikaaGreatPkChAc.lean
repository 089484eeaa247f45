/- A part of the proof of TopChurn: Cln. -/
import Derived.Test.YtecapfmmoejikaaGreatPkAk
set_option maxRecDepth 4000
set_option maxHeartbeats 8000000
namespace Go.Proofs.YtecapfmmoejikaaGreat
open Go.RowKit Go.Eg
theorem sliceNilI (w:World) (n c:Nat) (ad:Addr):(binOp .eql 37 (.slice (some ad) n c) (.slice none 0 0)).run Tryz.prog w = .ok (.bool false) w :=rfl
theorem sliceNilI2 (w:World):(binOp .eql 37 (.slice none 0 0) (.slice none 0 0)).run Tryz.prog w = .ok (.bool true) w :=rfl
theorem cloneI_any (v:Value) (l:List Int) (B:Nat) (w:World) (h:w.ownsRow B 3 1 v l.length (l.map fun x =>.int .i64 x)) (hn:l.length≤8192) :
 Calls Tryz.prog 16 #[v] w fun r w' => ∃ v',r = .returned v'∧w'.ownsRow w.heap.size 3 1 v' l.length (l.map fun x =>.int .i64 x)∧Z00 w w' :=by
 obtain ⟨i0,hi,hz0,hz1,hz2⟩ :=info_parts Zju
 have H :=Hd h
 rcases h.2 with ⟨rfl,h0⟩ | ⟨b,cap,cur,rfl,hg,hh,r⟩
 ·have hl:l = [] :=by simpa using h0
  subst hl
  have hsn :=sliceNilI2
  go_enter Tryz.func16,Tryz.ntmps16
  go_wp2
  go_ret
  exact ⟨_,rfl,World.ownsRow_nil _ _ _ _,Mods.refl _ _⟩
 ·clear h hg hh r
  have hsn :=sliceNilI
  go_enter Tryz.func16,Tryz.ntmps16
  go_wp2_with (at_builtin; refine Z2x rfl (.tmp 5) (.tmp 6) 37 rfl w.heap.size 3 i0 (.int .i64 0) 1 8 Tryz.underlying37 hi hz0 hz1 hz2 rfl (by decide) (.slice (some ⟨w.heap.size,0,none⟩) 0 0) 0 [] rfl (World.ownsRow_lit w #[] 0 (Nat.le_refl _) (by unfold maxLen; omega) rfl) B _ l.length (l.map fun x =>.int .i64 x) rfl (H.out.alloc _) (fun u hu =>by obtain ⟨y,_,rfl⟩ :=List.mem_map.1 hu; rfl) (by unfold maxLen; omega) (by omega) (by simp) ?_)
  intro v' w' ho hm
  have HO :=Hd ho
  have HG :=Hd (show Z00 w w' from ((Mods.refl _ w).alloc _).seq hm fun i hi e =>by simp [Value.ownBlock] at e; omega)
  obtain ⟨a',c',rfl⟩ :=Z0c ho
  clear ho hm
  go_wp2
  go_ret
  exact ⟨_,rfl,HO.out,HG.out⟩
end Go.Proofs.YtecapfmmoejikaaGreat
