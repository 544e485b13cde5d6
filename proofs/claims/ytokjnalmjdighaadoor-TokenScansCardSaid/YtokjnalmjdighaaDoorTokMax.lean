import Derived.Test.YtokjnalmjdighaaDoorTokEnds
namespace Go.Proofs.YtokjnalmjdighaaDoor
open Go.RowKit Go.Lib
theorem maxL_of_shaped {w : World} (h : w.ShapedOpen Tryd.prog) : MaxL w := by
  obtain ⟨m, hm⟩ := Tryd.laysM144.s1_3 w h
  exact ⟨World.block_lt_of_cell? w _ hm, m, hm⟩
end Go.Proofs.YtokjnalmjdighaaDoor
