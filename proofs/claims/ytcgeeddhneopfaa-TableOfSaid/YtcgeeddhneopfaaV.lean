/- What is to be shown of the functions, gathered. -/
import Derived.Test.YtcgeeddhneopfaaGr
import Derived.Test.YtcgeeddhneopfaaW0
import Derived.Test.YtcgeeddhneopfaaW1
import Derived.Test.YtcgeeddhneopfaaW2
import Derived.Test.YtcgeeddhneopfaaW3
import Derived.Test.YtcgeeddhneopfaaW4
import Derived.Test.YtcgeeddhneopfaaW5
import Derived.Test.YtcgeeddhneopfaaW6
import Derived.Test.YtcgeeddhneopfaaW7
import Derived.Test.YtcgeeddhneopfaaW8
