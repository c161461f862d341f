import Derived.Test.YthdkofhgdmgdcaaCb
/- The law ConfigEdges, as a contract. -/
set_option linter.unusedVariables false
set_option linter.unusedSimpArgs false
namespace Go.Proofs.Ythdkofhgdmgdcaa
open Go Go.Sy
theorem c_ConfigEdges (x : Cf) (w : Int) : Fc Try.prog n_ouroboroslaw11_ConfigEdges [x.sv, .v (.int .u8 w)] (sb true) := by
  by_cases hc : cok x
  · by_cases h0 : w.tmod 7 = 0
    · exact c_Edges0 x w hc h0
    by_cases h1 : w.tmod 7 = 1
    · exact c_Edges1 x w hc h1
    by_cases h2 : w.tmod 7 = 2
    · exact c_Edges2 x w hc h2
    by_cases h3 : w.tmod 7 = 3
    · exact c_Edges3 x w hc h3
    by_cases h4 : w.tmod 7 = 4
    · exact c_Edges4 x w hc h4
    by_cases h5 : w.tmod 7 = 5
    · exact c_Edges5 x w hc h5
    exact c_Edges6 x w hc h0 h1 h2 h3 h4 h5
  · exact c_EdgesN x w hc
end Go.Proofs.Ythdkofhgdmgdcaa

