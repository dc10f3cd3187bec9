/- What is to be shown of the functions, gathered. -/
import Derived.Test.YtchjcjocihckpaaGaC
import Derived.Test.YtchjcjocihckpaaW0C
import Derived.Test.YtchjcjocihckpaaW1C
import Derived.Test.YtchjcjocihckpaaW2C
import Derived.Test.YtchjcjocihckpaaW3C
import Derived.Test.YtchjcjocihckpaaW4C
import Derived.Test.YtchjcjocihckpaaW5C
import Derived.Test.YtchjcjocihckpaaW6C
