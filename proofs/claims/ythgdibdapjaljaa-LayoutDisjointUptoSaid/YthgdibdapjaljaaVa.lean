/- Valid: over data. -/
import Derived.Test.YthgdibdapjaljaaEnv
namespace Go.Proofs.Ythgdibdapjaljaa
open Go.RowKit
def bigQ (q : Pr) : Bool := decide ((q.params.length : Int) > 10) || bigB q.body
def bigP (p : Pg) : Bool := decide ((p.vars.length : Int) > 40) || decide ((p.procs.length : Int) > 70) || bigB p.main || p.procs.any bigQ
end Go.Proofs.Ythgdibdapjaljaa
